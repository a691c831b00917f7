/- Parts: PAllx52, PAllx29, PAllx46, PAllx47, EAll, ERise, PAllx26, ERight, PAllx53, HAwake15. -/
import Derived.Test.YtioooiflpabngaaContentApartB
import Derived.Test.YtioooiflpabngaaContentApartC
import Derived.WalkSpells
import Derived.Lib.Overlaps
import Derived.Lib.AppendZerosOnto
import Derived.Laws.CopyOwn
import Derived.Shelf.RegionOpenPlain
import Derived.Lib.Walk
import Derived.Lib.JoinLaws
import Derived.Laws.NewBlocks
import Derived.Lib.SlBytesConst
set_option linter.unusedVariables false
set_option linter.unusedSimpArgs false
section
namespace Go.Proofs.Ytioooiflpabngaa.PAll
open Go.RowKit Go.Proofs.YtioooiflpabngaaW.PrintWords Go.Proofs.YtioooiflpabngaaW.PrintLast Go.Proofs.YtioooiflpabngaaW.PrintMore
attribute [local go_sem] max2_int min2_int max_two min_two max_three min_three max_four min_four   -- for this text's walks alone
set_option linter.unusedVariables false
set_option linter.unusedSimpArgs false
mutual
def content_EncodeAll.l0 : Nat → List Int → List (S32) → Int → Int → List (S32) → List (S27) → Int → Int → Int → Option (List Int × Int)
 | 0, _, _, _, _, _, _, _, _, _ => none
 | k + 1, x4, x19, x20, x21, x532000, x532001, x532002, x532003, x532004 => if x21 < x20 then (if 0 ≤ x21 then (if x21 < (x19.length : Int) then ((label_Encode.f k x4 ((rd_T32 x19 x21).f0.f0.f0) ((rd_T32 x19 x21).f0.f0.f1) ((rd_T32 x19 x21).f0.f1) ((rd_T32 x19 x21).f0.f2)).bind fun bt541 => ((code_Bytes.f k bt541.1 ((rd_T32 x19 x21).f1)).bind fun t545 => (content_EncodeAll.l0 k t545 x19 x20 (wrap64 (x21 + 1)) x532000 x532001 x532002 x532003 x532004))) else (none)) else (none)) else ((code_Uint.f k x4 (IntKind.u64.wrap ((x532001.length : Int)))).bind fun t548 => (content_EncodeAll.l1 k t548 x532001 (x532001.length : Int) 0 x532000 x532001 x532002 x532003 x532004))
def content_EncodeAll.l1 : Nat → List Int → List (S27) → Int → Int → List (S32) → List (S27) → Int → Int → Int → Option (List Int × Int)
 | 0, _, _, _, _, _, _, _, _, _ => none
 | k + 1, x4, x44, x45, x46, x532000, x532001, x532002, x532003, x532004 => if x46 < x45 then (if 0 ≤ x46 then (if x46 < (x44.length : Int) then ((label_Encode.f k x4 ((rd_T27 x44 x46).f0.f0) ((rd_T27 x44 x46).f0.f1) ((rd_T27 x44 x46).f1) ((rd_T27 x44 x46).f2)).bind fun bt553 => (content_EncodeAll.l1 k bt553.1 x44 x45 (wrap64 (x46 + 1)) x532000 x532001 x532002 x532003 x532004)) else (none)) else (none)) else ((code_Uint.f k x4 (IntKind.u64.wrap (x532002))).bind fun t557 => ((ident_Encode.f k t557 x532003 x532004).bind fun bt560 => (some (bt560.1, 0))))
end
def content_EncodeAll.f (k : Nat) (l0_0 : List (S32)) (l0_1 : List (S27)) (a0_2 : Int) (a0_3 : Int) (a0_4 : Int) : Option (List Int × Int) := (content_Right.f k l0_0 l0_1 a0_2 a0_3 a0_4).bind fun t532 => (if t532 = true then ((code_Uint.f k (([2] : List Int)) (IntKind.u64.wrap ((l0_0.length : Int)))).bind fun t536 => (content_EncodeAll.l0 k t536 l0_0 (l0_0.length : Int) 0 l0_0 l0_1 a0_2 a0_3 a0_4)) else (some (([] : List Int), 3)))
set_option maxHeartbeats 8000000 in
set_option maxRecDepth 100000 in
theorem content_EncodeAll.calls (k : Nat) (A0_0 : Option Addr) (c0_0 : Nat) (l0_0 : List (S32)) (A0_1 : Option Addr) (c0_1 : Nat) (l0_1 : List (S27)) (a0_2 : Int) (a0_3 : Int) (a0_4 : Int) (r1 : List Int) (r2 : Int) (w : World) (hr0_0 : Kd.C k32 w A0_0 l0_0.length l0_0) (hc0_0 : l0_0.length ≤ c0_0) (hr0_1 : Kd.C k27 w A0_1 l0_1.length l0_1) (hc0_1 : l0_1.length ≤ c0_1) (h : content_EncodeAll.f k l0_0 l0_1 a0_2 a0_3 a0_4 = some (r1, r2)) :
  Calls Try.prog 47 #[.agg #[.slice A0_0 l0_0.length c0_0, .slice A0_1 l0_1.length c0_1, .int .i64 a0_2, .int .u64 a0_3, .int .i64 a0_4]] w fun e w' => ∃ v0_ : Value, e = .returned (.tuple #[v0_, .int .i64 r2]) ∧ Kd.R (Kd.int .u8) 5 w' w.heap.size (fun _ => True) v0_ r1 ∧ Below w.heap.size w w' := by
 have hu53 := Try.underlying53
 have hu32 := Try.underlying32
 have hu27 := Try.underlying27
 have hu25 := Try.underlying25
 have HR0_0 := Aside0.mk hr0_0
 have HC0_0 := Aside0.mk hc0_0
 clear hr0_0 hc0_0
 have HR0_1 := Aside0.mk hr0_1
 have HC0_1 := Aside0.mk hc0_1
 clear hr0_1 hc0_1
 have HB := Aside0.mk (Below.refl w.heap.size w)
 have H : ((content_Right.f k l0_0 l0_1 a0_2 a0_3 a0_4).bind fun t532 => (if t532 = true then ((code_Uint.f k (([2] : List Int)) (IntKind.u64.wrap ((l0_0.length : Int)))).bind fun t536 => (content_EncodeAll.l0 k t536 l0_0 (l0_0.length : Int) 0 l0_0 l0_1 a0_2 a0_3 a0_4)) else (some (([] : List Int), 3)))) = some (r1, r2) := h
 clear h
 replace H := Option.bind_eq_some_iff.mp H
 obtain ⟨t532, A20, H⟩ := H
 replace H : (if t532 = true then ((code_Uint.f k (([2] : List Int)) (IntKind.u64.wrap ((l0_0.length : Int)))).bind fun t536 => (content_EncodeAll.l0 k t536 l0_0 (l0_0.length : Int) 0 l0_0 l0_1 a0_2 a0_3 a0_4)) else (some (([] : List Int), 3))) = some (r1, r2) := H
 have A2 := Aside0.mk A20
 clear A20
 by_cases c3 : t532 = true
 ·
  subst c3
  have H1 : ((code_Uint.f k (([2] : List Int)) (IntKind.u64.wrap ((l0_0.length : Int)))).bind fun t536 => (content_EncodeAll.l0 k t536 l0_0 (l0_0.length : Int) 0 l0_0 l0_1 a0_2 a0_3 a0_4)) = some (r1, r2) := by rw [if_pos rfl] at H; exact H
  clear H
  have H := H1
  clear H1
  obtain ⟨y533, hy533⟩ : ∃ y_ : List Int, y_ = (([2] : List Int)) := ⟨_, rfl⟩
  replace H : ((code_Uint.f k y533 (IntKind.u64.wrap ((l0_0.length : Int)))).bind fun t536 => (content_EncodeAll.l0 k t536 l0_0 (l0_0.length : Int) 0 l0_0 l0_1 a0_2 a0_3 a0_4)) = some (r1, r2) := by first | (rw [hy533]; with_reducible exact H) | (have H2_ := (Option.bind_some _ _).symm.trans H; rw [hy533]; with_reducible exact H2_) | (have H2_ := (Option.bind_some _ _).symm.trans H; with_reducible exact H2_) | with_reducible exact H | (rw [hy533]; exact H) | exact H
  have Ny533 := Aside0.mk hy533
  clear hy533
  replace H := Option.bind_eq_some_iff.mp H
  obtain ⟨t536, A40, H⟩ := H
  replace H : (content_EncodeAll.l0 k t536 l0_0 (l0_0.length : Int) 0 l0_0 l0_1 a0_2 a0_3 a0_4) = some (r1, r2) := H
  have A4 := Aside0.mk A40
  clear A40
  have H' := Aside0.mk H
  clear H
  go_enter Try.func47, Try.ntmps47
  go_wp2_with (first | ((with_reducible refine gate_dst (N := 1) rfl ?_); refine box_event ?hg (N := 1) ?hd (cs := #[.slice A0_0 l0_0.length c0_0, .slice A0_1 l0_1.length c0_1, .int .i64 a0_2, .int .u64 a0_3, .int .i64 a0_4]) (t := 53) ?hr ?_; (case hd => rfl); (case hg => rfl); (case hr => first | (go_simp; done) | (go_simp; rfl)); intro gb531 hg w5 hbox hb; have n0_ := Aside0.mk (below_step zb_ hb); have n1_ := Aside0.mk (hbox); have n2_ := Aside0.mk ((by rw [hg]; exact (below_size zb_) : w.heap.size ≤ gb531)); have n3_ := Aside0.mk ((by rw [hg]; exact (below_size zb_) : w.heap.size ≤ gb531)); clear HB; have HB := n0_; have BK531 := n1_; have GW531 := n2_; have GE531 := n3_; clear n0_ n1_ n2_ n3_; clear hb hbox hg; have hcz6_0 : w5.cell? ⟨gb531, 0, none⟩ = some (.slice A0_0 l0_0.length c0_0) := (blk_cell BK531.out 0).trans rfl; have hcz6_1 : w5.cell? ⟨gb531, 1, none⟩ = some (.slice A0_1 l0_1.length c0_1) := (blk_cell BK531.out 1).trans rfl; have hcz6_2 : w5.cell? ⟨gb531, 2, none⟩ = some (.int .i64 a0_2) := (blk_cell BK531.out 2).trans rfl; have hcz6_3 : w5.cell? ⟨gb531, 3, none⟩ = some (.int .u64 a0_3) := (blk_cell BK531.out 3).trans rfl; have hcz6_4 : w5.cell? ⟨gb531, 4, none⟩ = some (.int .i64 a0_4) := (blk_cell BK531.out 4).trans rfl; have hfz6_0 := blk_frozen BK531.out 0; have hfz6_1 := blk_frozen BK531.out 1; have hfz6_2 := blk_frozen BK531.out 2; have hfz6_3 := blk_frozen BK531.out 3; have hfz6_4 := blk_frozen BK531.out 4) | ((with_reducible refine gate_callee (f := 53) rfl ?_); refine goesL_ (some 10) rfl rfl Try.func53 (by kernel_rfl) rfl #[.agg #[.slice A0_0 l0_0.length c0_0, .slice A0_1 l0_1.length c0_1, .int .i64 a0_2, .int .u64 a0_3, .int .i64 a0_4]] rfl za_ ?_; (with_reducible refine (content_Right.calls k _ _ l0_0 _ _ l0_1 a0_2 a0_3 a0_4 true _ ?side1 ?side2 ?side3 ?side4 A2.out).mono ?_); (case side1 => exact zc_ HR0_0 HB); (case side2 => exact HC0_0.out); (case side3 => exact zc_ HR0_1 HB); (case side4 => exact HC0_1.out); rintro e w7 ⟨rfl, hb⟩; refine ⟨_, rfl, ?_⟩; have n0_ := zk_ BK531 hb; have n1_ := Aside0.mk (below_step zb_ hb); clear BK531; clear HB; have BK531 := n0_; have HB := n1_; clear n0_ n1_; (try clear hb); (try clear hb2); (try clear hk); (try clear hi)) | ((with_reducible refine gate_dst (N := 12) rfl ?_); refine Kd.R_lit (Kd.int .u8) _ 5 ?hg (N := 12) ?hd (xs := ([2] : List Int)) (inner := [.int .u8 2]) (ok := fun _ => True) (okp := fun _ => True) ?hr ?hp (fun _ hk => hk) trivial (Below.refl _ _) (Nat.le_refl _) (by simp) ?_; (case hd => rfl); (case hg => rfl); (case hr => first | (go_simp; done) | (go_simp; rfl)); (case hp => exact (Reps.one (show Kd.M (Kd.int .u8) _ _ _ 2 [.int .u8 2] from rfl) (Reps.none _ _))); intro v534 w8 ho9 hb hg_ hnew_; clear hg_ hnew_; (first | rw [← Ny533.out] at ho9 | (simp only [Int.reduceToNat] at ho9; rw [← Ny533.out] at ho9)); have n0_ := Aside0.mk (Kd.R_lower ho9 (below_size zb_)); have n1_ := zk_ BK531 hb; have n2_ := Aside0.mk (below_step zb_ hb); clear BK531; clear HB; have HO535 := n0_; have BK531 := n1_; have HB := n2_; clear n0_ n1_ n2_; clear hb ho9; have hcz10_0 : w8.cell? ⟨gb531, 0, none⟩ = some (.slice A0_0 l0_0.length c0_0) := (blk_cell BK531.out 0).trans rfl; have hcz10_1 : w8.cell? ⟨gb531, 1, none⟩ = some (.slice A0_1 l0_1.length c0_1) := (blk_cell BK531.out 1).trans rfl; have hcz10_2 : w8.cell? ⟨gb531, 2, none⟩ = some (.int .i64 a0_2) := (blk_cell BK531.out 2).trans rfl; have hcz10_3 : w8.cell? ⟨gb531, 3, none⟩ = some (.int .u64 a0_3) := (blk_cell BK531.out 3).trans rfl; have hcz10_4 : w8.cell? ⟨gb531, 4, none⟩ = some (.int .i64 a0_4) := (blk_cell BK531.out 4).trans rfl; have hfz10_0 := blk_frozen BK531.out 0; have hfz10_1 := blk_frozen BK531.out 1; have hfz10_2 := blk_frozen BK531.out 2; have hfz10_3 := blk_frozen BK531.out 3; have hfz10_4 := blk_frozen BK531.out 4; obtain ⟨Ao11, co11, eo11⟩ := Kd.R_slice HO535.out; subst eo11) | ((with_reducible refine gate_callee (f := 92) rfl ?_); refine goesL_ (some 17) rfl rfl Try.func92 (by kernel_rfl) rfl #[.slice Ao11 y533.length co11, .int .u64 (IntKind.u64.wrap ((l0_0.length : Int)))] rfl za_ ?_; (with_reducible refine (code_Uint.calls k (fun k_ => some k_ = (.slice Ao11 y533.length co11 : Value).ownBlock) (.slice Ao11 y533.length co11) y533 (IntKind.u64.wrap ((l0_0.length : Int))) t536 w _ ?side1 ?side2 A4.out).mono ?_); (case side1 => repeat (first | (with_reducible first | exact HB.out | apply below_alloc | apply pw_below_drewN | apply below_drew1 | refine below_set ?_ GE531.out) | exact HB.out)); (case side2 => exact Kd.R_tight rfl HO535.out); rintro e w12 ⟨v537, rfl, ho0, hb, hkp⟩; refine ⟨_, rfl, ?_⟩; have n0_ := Aside0.mk (blk_kept (by (with_reducible repeat (first | refine blk_drewN ?_ _ | refine blk_drew ?_ | refine blk_alloc ?_ _)); exact BK531.out) hkp (fun hs_ => (fun e_ => (Kd.R_ne HO535.out BK531.out (by decide)) e_) hs_)); have n1_ := Aside0.mk (Kd.R_mono (ok' := fun k_ => True) ho0 (fun k_ hk_ => trivial)); have n2_ := Aside0.mk (hb); clear BK531; clear HB; clear HO535; have BK531 := n0_; have HO538 := n1_; have HB := n2_; clear n0_ n1_ n2_; (try clear hb); (try clear hkp); (try clear ho0); have hcz13_0 : w12.cell? ⟨gb531, 0, none⟩ = some (.slice A0_0 l0_0.length c0_0) := (blk_cell BK531.out 0).trans rfl; have hcz13_1 : w12.cell? ⟨gb531, 1, none⟩ = some (.slice A0_1 l0_1.length c0_1) := (blk_cell BK531.out 1).trans rfl; have hcz13_2 : w12.cell? ⟨gb531, 2, none⟩ = some (.int .i64 a0_2) := (blk_cell BK531.out 2).trans rfl; have hcz13_3 : w12.cell? ⟨gb531, 3, none⟩ = some (.int .u64 a0_3) := (blk_cell BK531.out 3).trans rfl; have hcz13_4 : w12.cell? ⟨gb531, 4, none⟩ = some (.int .i64 a0_4) := (blk_cell BK531.out 4).trans rfl; have hfz13_0 := blk_frozen BK531.out 0; have hfz13_1 := blk_frozen BK531.out 1; have hfz13_2 := blk_frozen BK531.out 2; have hfz13_3 := blk_frozen BK531.out 3; have hfz13_4 := blk_frozen BK531.out 4))
  go_loopg [4, 21] k (fun kq v4 v21 w' => ∃ (x4_1 : List Int) (x21_1 : Int), v21 = .int .i64 x21_1 ∧ Aside0 (content_EncodeAll.l0 kq x4_1 l0_0 (l0_0.length : Int) x21_1 l0_0 l0_1 a0_2 a0_3 a0_4 = some (r1, r2)) ∧ Aside0 (kq ≤ k) ∧ Aside0 (Kd.R (Kd.int .u8) 5 w' w.heap.size (fun _ => True) v4 x4_1) ∧ Aside0 (w'.heap[gb531]? = some (.cells #[(.slice A0_0 l0_0.length c0_0), (.slice A0_1 l0_1.length c0_1), .int .i64 a0_2, .int .u64 a0_3, .int .i64 a0_4] 53 (0, 0))) ∧ Aside0 (Below w.heap.size w w'))
  case atStart => exact ⟨(t536), (0), (by first | rfl | (simp; done) | (simp [*]; done)), H', ⟨Nat.le_refl _⟩, ⟨by (with_reducible repeat (first | apply Kd.R_alloc | apply Kd.R_drewN | apply Kd.R_drew)); exact HO538.out⟩, ⟨by (with_reducible repeat (first | refine blk_drewN ?_ _ | refine blk_drew ?_ | refine blk_alloc ?_ _)); exact BK531.out⟩, ⟨by repeat (first | (with_reducible first | exact HB.out | apply below_alloc | apply pw_below_drewN | apply below_drew1 | refine below_set ?_ GE531.out) | exact HB.out)⟩⟩
  case round =>
   clear H'
   try clear p2
   try clear c3
   try clear c4
   try clear c5
   try clear c9
   try clear hcz10_0
   try clear hcz10_1
   try clear hcz10_2
   try clear hcz10_3
   try clear hcz10_4
   try clear hcz13_0
   try clear hcz13_1
   try clear hcz13_2
   try clear hcz13_3
   try clear hcz13_4
   try clear hcz6_0
   try clear hcz6_1
   try clear hcz6_2
   try clear hcz6_3
   try clear hcz6_4
   try clear hfz10_0
   try clear hfz10_1
   try clear hfz10_2
   try clear hfz10_3
   try clear hfz10_4
   try clear hfz13_0
   try clear hfz13_1
   try clear hfz13_2
   try clear hfz13_3
   try clear hfz13_4
   try clear hfz6_0
   try clear hfz6_1
   try clear hfz6_2
   try clear hfz6_3
   try clear hfz6_4
   obtain ⟨x4_1, x21_1, rfl, HA, HK1, HO_4, BK531, HB⟩ := hrel
   cases gk with
   | zero => exact absurd HA.out (by simp [content_EncodeAll.l0])
   | succ k1 =>
    have H := HA.out
    clear HA
    simp only [content_EncodeAll.l0] at H
    by_cases c14 : x21_1 < (l0_0.length : Int)
    ·
     rw [if_pos c14] at H
     have c14b0 : decide (x21_1 < (l0_0.length : Int)) = true := decide_eq_true c14
     clear c14
     by_cases c15 : 0 ≤ x21_1
     ·
      rw [if_pos c15] at H
      have c15b0 : decide (0 ≤ x21_1) = true := decide_eq_true c15
      clear c15
      by_cases c16 : x21_1 < (l0_0.length : Int)
      ·
       rw [if_pos c16] at H
       have c16b0 : decide (x21_1 < (l0_0.length : Int)) = true := decide_eq_true c16
       clear c16
       replace H := Option.bind_eq_some_iff.mp H
       obtain ⟨⟨t541, t544⟩, A170, H⟩ := H
       replace H : ((code_Bytes.f k1 t541 ((rd_T32 l0_0 x21_1).f1)).bind fun t545 => (content_EncodeAll.l0 k1 t545 l0_0 (l0_0.length : Int) (wrap64 (x21_1 + 1)) l0_0 l0_1 a0_2 a0_3 a0_4)) = some (r1, r2) := H
       have A17 := Aside0.mk A170
       clear A170
       replace H := Option.bind_eq_some_iff.mp H
       obtain ⟨t545, A180, H⟩ := H
       replace H : (content_EncodeAll.l0 k1 t545 l0_0 (l0_0.length : Int) (wrap64 (x21_1 + 1)) l0_0 l0_1 a0_2 a0_3 a0_4) = some (r1, r2) := H
       have A18 := Aside0.mk A180
       clear A180
       have H' := Aside0.mk H
       clear H
       have p539 : 0 ≤ (x21_1 : Int) := of_decide_eq_true zs_
       have q539 : x21_1 < (l0_0.length : Int) := of_decide_eq_true zs_
       obtain ⟨ad539, A539_4, c539_4, e539, hx539_0, hx539_1, hx539_2, hx539_3, hx539_4, hl539_4, hi539_4⟩ := at_T32 HR0_0.out x21_1 p539 q539
       cases e539
       replace hx539_0 := (HB.out.cell (World.block_lt_of_cell? w _ hx539_0)).trans hx539_0
       replace hx539_1 := (HB.out.cell (World.block_lt_of_cell? w _ hx539_1)).trans hx539_1
       replace hx539_2 := (HB.out.cell (World.block_lt_of_cell? w _ hx539_2)).trans hx539_2
       replace hx539_3 := (HB.out.cell (World.block_lt_of_cell? w _ hx539_3)).trans hx539_3
       replace hx539_4 := (HB.out.cell (World.block_lt_of_cell? w _ hx539_4)).trans hx539_4
       have HR539_4 := Aside0.mk hi539_4
       have HC539_4 := Aside0.mk hl539_4
       clear hi539_4 hl539_4
       replace p539 := eq_true p539
       replace q539 := eq_true q539
       go_wp2_with (first | ((with_reducible refine gate_dst (N := 6) rfl ?_); refine box_event ?hg (N := 6) ?hd (cs := #[.int .u64 0, .int .i64 0, .int .u64 0, .int .i64 0, .slice none 0 0]) (t := 32) ?hr ?_; (case hd => rfl); (case hg => rfl); (case hr => first | (go_simp; done) | (go_simp; rfl)); intro gb540 hg w19 hbox hb; have n0_ := Aside0.mk (Kd.R_below (zr_ HO_4) hb); have n1_ := zk_ BK531 hb; have n2_ := Aside0.mk (below_step zb_ hb); have n3_ := Aside0.mk (hbox); have n4_ := Aside0.mk ((by rw [hg]; exact (below_size zb_) : w.heap.size ≤ gb540)); have n5_ := Aside0.mk ((by rw [hg]; exact (below_size zb_) : w.heap.size ≤ gb540)); have n6_ := Aside0.mk ((by rw [hg]; exact Nat.ne_of_lt (blk_lt (g := gb531) (o := .cells #[.slice (some ad539) l0_0.length c0_0, .slice A0_1 l0_1.length c0_1, .int .i64 a0_2, .int .u64 a0_3, .int .i64 a0_4] 53 (0, 0)) (by (with_reducible repeat (first | refine blk_drewN ?_ _ | refine blk_drew ?_ | refine blk_alloc ?_ _)); exact BK531.out)) : gb531 ≠ gb540)); have n7_ := Aside0.mk ((by rw [hg]; exact Nat.ne_of_gt (blk_lt (g := gb531) (o := .cells #[.slice (some ad539) l0_0.length c0_0, .slice A0_1 l0_1.length c0_1, .int .i64 a0_2, .int .u64 a0_3, .int .i64 a0_4] 53 (0, 0)) (by (with_reducible repeat (first | refine blk_drewN ?_ _ | refine blk_drew ?_ | refine blk_alloc ?_ _)); exact BK531.out)) : gb540 ≠ gb531)); clear HO_4; clear BK531; clear HB; have HO_4 := n0_; have BK531 := n1_; have HB := n2_; have BK540 := n3_; have GW540 := n4_; have GE540 := n5_; have NB531_540 := n6_; have NB540_531 := n7_; clear n0_ n1_ n2_ n3_ n4_ n5_ n6_ n7_; clear hb hbox hg; have hnb20 := NB540_531.out; have hnc20 := NB531_540.out; have hcz21_0 : w19.cell? ⟨gb540, 0, none⟩ = some (.int .u64 0) := (blk_cell BK540.out 0).trans rfl; have hcz21_1 : w19.cell? ⟨gb540, 1, none⟩ = some (.int .i64 0) := (blk_cell BK540.out 1).trans rfl; have hcz21_2 : w19.cell? ⟨gb540, 2, none⟩ = some (.int .u64 0) := (blk_cell BK540.out 2).trans rfl; have hcz21_3 : w19.cell? ⟨gb540, 3, none⟩ = some (.int .i64 0) := (blk_cell BK540.out 3).trans rfl; have hcz21_4 : w19.cell? ⟨gb540, 4, none⟩ = some (.slice none 0 0) := (blk_cell BK540.out 4).trans rfl; have hfz21_0 := blk_frozen BK540.out 0; have hfz21_1 := blk_frozen BK540.out 1; have hfz21_2 := blk_frozen BK540.out 2; have hfz21_3 := blk_frozen BK540.out 3; have hfz21_4 := blk_frozen BK540.out 4) | ((with_reducible refine gate_store (t := 32) (p := 6) rfl ?_); refine store_event (t := 32) (p := 6) (v := ?vo_w22) (w1 := (((((w19.setCell ⟨gb540, 0, none⟩ (.int .u64 ((rd_T32 l0_0 x21_1).f0.f0.f0))).setCell ⟨gb540, 1, none⟩ (.int .i64 ((rd_T32 l0_0 x21_1).f0.f0.f1))).setCell ⟨gb540, 2, none⟩ (.int .u64 ((rd_T32 l0_0 x21_1).f0.f1))).setCell ⟨gb540, 3, none⟩ (.int .i64 ((rd_T32 l0_0 x21_1).f0.f2))).setCell ⟨gb540, 4, none⟩ (.slice A539_4 ((rd_T32 l0_0 x21_1).f1).length c539_4))) ?hg ?ho ?hn ?hr ?_; (case ho => rfl); (case hg => rfl); (case hn => rfl); (case hr => first | (go_simp; done) | (go_simp; rfl)); intro w22 hw; have n0_ : Aside0 (Kd.R (Kd.int .u8) 5 w22 w.heap.size (fun _ => True) u4 x4_1) := ⟨(by rw [hw]; exact (by (with_reducible repeat (first | apply Kd.R_alloc | apply Kd.R_drewN | apply Kd.R_drew)); exact Kd.R_mono (Kd.R_far (p := ⟨gb540, 4, none⟩) (Kd.R_far (p := ⟨gb540, 3, none⟩) (Kd.R_far (p := ⟨gb540, 2, none⟩) (Kd.R_far (p := ⟨gb540, 1, none⟩) (Kd.R_far (p := ⟨gb540, 0, none⟩) (Kd.R_types HO_4.out BK540.out (by decide)) (fun _ hk => hk.2) (.int .u64 ((rd_T32 l0_0 x21_1).f0.f0.f0))) (fun _ hk => hk.2) (.int .i64 ((rd_T32 l0_0 x21_1).f0.f0.f1))) (fun _ hk => hk.2) (.int .u64 ((rd_T32 l0_0 x21_1).f0.f1))) (fun _ hk => hk.2) (.int .i64 ((rd_T32 l0_0 x21_1).f0.f2))) (fun _ hk => hk.2) (.slice A539_4 ((rd_T32 l0_0 x21_1).f1).length c539_4)) (fun _ hk => trivial)))⟩; have n1_ : Aside0 (w22.heap[gb531]? = some (.cells #[.slice (some ad539) l0_0.length c0_0, .slice A0_1 l0_1.length c0_1, .int .i64 a0_2, .int .u64 a0_3, .int .i64 a0_4] 53 (0, 0))) := ⟨(by rw [hw]; exact (by (with_reducible repeat (first | refine blk_drewN ?_ _ | refine blk_drew ?_ | refine blk_alloc ?_ _)); refine blk_far ?_ NB531_540.out _; (with_reducible repeat (first | refine blk_drewN ?_ _ | refine blk_drew ?_ | refine blk_alloc ?_ _)); refine blk_far ?_ NB531_540.out _; (with_reducible repeat (first | refine blk_drewN ?_ _ | refine blk_drew ?_ | refine blk_alloc ?_ _)); refine blk_far ?_ NB531_540.out _; (with_reducible repeat (first | refine blk_drewN ?_ _ | refine blk_drew ?_ | refine blk_alloc ?_ _)); refine blk_far ?_ NB531_540.out _; (with_reducible repeat (first | refine blk_drewN ?_ _ | refine blk_drew ?_ | refine blk_alloc ?_ _)); refine blk_far ?_ NB531_540.out _; (with_reducible repeat (first | refine blk_drewN ?_ _ | refine blk_drew ?_ | refine blk_alloc ?_ _)); exact BK531.out))⟩; have n2_ : Aside0 (w22.heap[gb540]? = some (.cells #[.int .u64 ((rd_T32 l0_0 x21_1).f0.f0.f0), .int .i64 ((rd_T32 l0_0 x21_1).f0.f0.f1), .int .u64 ((rd_T32 l0_0 x21_1).f0.f1), .int .i64 ((rd_T32 l0_0 x21_1).f0.f2), .slice A539_4 ((rd_T32 l0_0 x21_1).f1).length c539_4] 32 (0, 0))) := ⟨(by rw [hw]; exact (by (with_reducible repeat (first | refine blk_drewN ?_ _ | refine blk_drew ?_ | refine blk_alloc ?_ _)); refine blk_put (cs := #[.int .u64 ((rd_T32 l0_0 x21_1).f0.f0.f0), .int .i64 ((rd_T32 l0_0 x21_1).f0.f0.f1), .int .u64 ((rd_T32 l0_0 x21_1).f0.f1), .int .i64 ((rd_T32 l0_0 x21_1).f0.f2), .slice none 0 0]) ?_ 4 _ rfl; (with_reducible repeat (first | refine blk_drewN ?_ _ | refine blk_drew ?_ | refine blk_alloc ?_ _)); refine blk_put (cs := #[.int .u64 ((rd_T32 l0_0 x21_1).f0.f0.f0), .int .i64 ((rd_T32 l0_0 x21_1).f0.f0.f1), .int .u64 ((rd_T32 l0_0 x21_1).f0.f1), .int .i64 0, .slice none 0 0]) ?_ 3 _ rfl; (with_reducible repeat (first | refine blk_drewN ?_ _ | refine blk_drew ?_ | refine blk_alloc ?_ _)); refine blk_put (cs := #[.int .u64 ((rd_T32 l0_0 x21_1).f0.f0.f0), .int .i64 ((rd_T32 l0_0 x21_1).f0.f0.f1), .int .u64 0, .int .i64 0, .slice none 0 0]) ?_ 2 _ rfl; (with_reducible repeat (first | refine blk_drewN ?_ _ | refine blk_drew ?_ | refine blk_alloc ?_ _)); refine blk_put (cs := #[.int .u64 ((rd_T32 l0_0 x21_1).f0.f0.f0), .int .i64 0, .int .u64 0, .int .i64 0, .slice none 0 0]) ?_ 1 _ rfl; (with_reducible repeat (first | refine blk_drewN ?_ _ | refine blk_drew ?_ | refine blk_alloc ?_ _)); refine blk_put (cs := #[.int .u64 0, .int .i64 0, .int .u64 0, .int .i64 0, .slice none 0 0]) ?_ 0 _ rfl; (with_reducible repeat (first | refine blk_drewN ?_ _ | refine blk_drew ?_ | refine blk_alloc ?_ _)); exact BK540.out))⟩; have n3_ : Aside0 (Below w.heap.size w w22) := ⟨(by rw [hw]; exact zb_)⟩; clear hw; clear HO_4; clear BK531; clear BK540; clear HB; have HO_4 := n0_; have BK531 := n1_; have BK540 := n2_; have HB := n3_; clear n0_ n1_ n2_ n3_; have hcz23_0 : w22.cell? ⟨gb540, 0, none⟩ = some (.int .u64 ((rd_T32 l0_0 x21_1).f0.f0.f0)) := (blk_cell BK540.out 0).trans rfl; have hcz23_1 : w22.cell? ⟨gb540, 1, none⟩ = some (.int .i64 ((rd_T32 l0_0 x21_1).f0.f0.f1)) := (blk_cell BK540.out 1).trans rfl; have hcz23_2 : w22.cell? ⟨gb540, 2, none⟩ = some (.int .u64 ((rd_T32 l0_0 x21_1).f0.f1)) := (blk_cell BK540.out 2).trans rfl; have hcz23_3 : w22.cell? ⟨gb540, 3, none⟩ = some (.int .i64 ((rd_T32 l0_0 x21_1).f0.f2)) := (blk_cell BK540.out 3).trans rfl; have hcz23_4 : w22.cell? ⟨gb540, 4, none⟩ = some (.slice A539_4 ((rd_T32 l0_0 x21_1).f1).length c539_4) := (blk_cell BK540.out 4).trans rfl; have hfz23_0 := blk_frozen BK540.out 0; have hfz23_1 := blk_frozen BK540.out 1; have hfz23_2 := blk_frozen BK540.out 2; have hfz23_3 := blk_frozen BK540.out 3; have hfz23_4 := blk_frozen BK540.out 4; obtain ⟨Ao24, co24, eo24⟩ := Kd.R_slice HO_4.out; subst eo24) | ((with_reducible refine gate_callee (f := 90) rfl ?_); refine goesL_ (some 29) rfl rfl Try.func90 (by kernel_rfl) rfl #[.slice Ao24 x4_1.length co24, .agg #[.int .u64 ((rd_T32 l0_0 x21_1).f0.f0.f0), .int .i64 ((rd_T32 l0_0 x21_1).f0.f0.f1), .int .u64 ((rd_T32 l0_0 x21_1).f0.f1), .int .i64 ((rd_T32 l0_0 x21_1).f0.f2)]] rfl za_ ?_; (with_reducible refine (label_Encode.calls k1 (fun k_ => some k_ = (.slice Ao24 x4_1.length co24 : Value).ownBlock) (.slice Ao24 x4_1.length co24) x4_1 ((rd_T32 l0_0 x21_1).f0.f0.f0) ((rd_T32 l0_0 x21_1).f0.f0.f1) ((rd_T32 l0_0 x21_1).f0.f1) ((rd_T32 l0_0 x21_1).f0.f2) t541 t544 w _ ?side1 ?side2 A17.out).mono ?_); (case side1 => repeat (first | (with_reducible first | exact HB.out | apply below_alloc | apply pw_below_drewN | apply below_drew1 | refine below_set ?_ GE531.out | refine below_set ?_ GE540.out) | exact HB.out)); (case side2 => exact Kd.R_tight rfl HO_4.out); rintro e w25 ⟨v542, rfl, ho0, hb, hkp⟩; refine ⟨_, rfl, ?_⟩; have n0_ := Aside0.mk (blk_kept (by (with_reducible repeat (first | refine blk_drewN ?_ _ | refine blk_drew ?_ | refine blk_alloc ?_ _)); exact BK531.out) hkp (fun hs_ => (fun e_ => (Kd.R_ne HO_4.out BK531.out (by decide)) e_) hs_)); have n1_ := Aside0.mk (blk_kept (by (with_reducible repeat (first | refine blk_drewN ?_ _ | refine blk_drew ?_ | refine blk_alloc ?_ _)); exact BK540.out) hkp (fun hs_ => (fun e_ => (Kd.R_ne HO_4.out BK540.out (by decide)) e_) hs_)); have n2_ := Aside0.mk (Kd.R_mono (ok' := fun k_ => True) ho0 (fun k_ hk_ => trivial)); have n3_ := Aside0.mk (hb); clear BK531; clear BK540; clear HB; clear HO_4; have BK531 := n0_; have BK540 := n1_; have HO543 := n2_; have HB := n3_; clear n0_ n1_ n2_ n3_; (try clear hb); (try clear hkp); (try clear ho0); have hcz26_0 : w25.cell? ⟨gb540, 0, none⟩ = some (.int .u64 ((rd_T32 l0_0 x21_1).f0.f0.f0)) := (blk_cell BK540.out 0).trans rfl; have hcz26_1 : w25.cell? ⟨gb540, 1, none⟩ = some (.int .i64 ((rd_T32 l0_0 x21_1).f0.f0.f1)) := (blk_cell BK540.out 1).trans rfl; have hcz26_2 : w25.cell? ⟨gb540, 2, none⟩ = some (.int .u64 ((rd_T32 l0_0 x21_1).f0.f1)) := (blk_cell BK540.out 2).trans rfl; have hcz26_3 : w25.cell? ⟨gb540, 3, none⟩ = some (.int .i64 ((rd_T32 l0_0 x21_1).f0.f2)) := (blk_cell BK540.out 3).trans rfl; have hcz26_4 : w25.cell? ⟨gb540, 4, none⟩ = some (.slice A539_4 ((rd_T32 l0_0 x21_1).f1).length c539_4) := (blk_cell BK540.out 4).trans rfl; have hfz26_0 := blk_frozen BK540.out 0; have hfz26_1 := blk_frozen BK540.out 1; have hfz26_2 := blk_frozen BK540.out 2; have hfz26_3 := blk_frozen BK540.out 3; have hfz26_4 := blk_frozen BK540.out 4; obtain ⟨Ao27, co27, eo27⟩ := Kd.R_slice HO543.out; subst eo27) | ((with_reducible refine gate_callee (f := 91) rfl ?_); refine goesL_ (some 35) rfl rfl Try.func91 (by kernel_rfl) rfl #[.slice Ao27 t541.length co27, .slice A539_4 ((rd_T32 l0_0 x21_1).f1).length c539_4] rfl za_ ?_; (with_reducible refine (code_Bytes.calls k1 (fun k_ => some k_ = (.slice Ao27 t541.length co27 : Value).ownBlock) (.slice Ao27 t541.length co27) t541 _ _ ((rd_T32 l0_0 x21_1).f1) t545 w _ ?side1 ?side2 ?side3 ?side4 A18.out).mono ?_); (case side1 => repeat (first | (with_reducible first | exact HB.out | apply below_alloc | apply pw_below_drewN | apply below_drew1 | refine below_set ?_ GE531.out | refine below_set ?_ GE540.out) | exact HB.out)); (case side2 => exact Kd.R_tight rfl HO543.out); (case side3 => exact Kd.C_kept_came (Kd.heap_int .u8) HR539_4.out zb_ (fun k_ hs_ => (fun e_ => Kd.R_base HO543.out k_ e_.symm) hs_)); (case side4 => exact HC539_4.out); rintro e w28 ⟨v546, rfl, ho0, hb, hkp⟩; refine ⟨_, rfl, ?_⟩; have n0_ := Aside0.mk (blk_kept (by (with_reducible repeat (first | refine blk_drewN ?_ _ | refine blk_drew ?_ | refine blk_alloc ?_ _)); exact BK531.out) hkp (fun hs_ => (fun e_ => (Kd.R_ne HO543.out BK531.out (by decide)) e_) hs_)); have n1_ := Aside0.mk (blk_kept (by (with_reducible repeat (first | refine blk_drewN ?_ _ | refine blk_drew ?_ | refine blk_alloc ?_ _)); exact BK540.out) hkp (fun hs_ => (fun e_ => (Kd.R_ne HO543.out BK540.out (by decide)) e_) hs_)); have n2_ := Aside0.mk (Kd.R_mono (ok' := fun k_ => True) ho0 (fun k_ hk_ => trivial)); have n3_ := Aside0.mk (hb); clear BK531; clear BK540; clear HB; clear HO543; have BK531 := n0_; have BK540 := n1_; have HO547 := n2_; have HB := n3_; clear n0_ n1_ n2_ n3_; (try clear hb); (try clear hkp); (try clear ho0)))
       go_roundg k1
       case measure => have := HK1.out; omega
       case rel => exact ⟨(t545), (wrap64 (x21_1 + 1)), (by first | rfl | (simp; done) | (simp [*]; done)), H', ⟨by have := HK1.out; omega⟩, ⟨by (with_reducible repeat (first | apply Kd.R_alloc | apply Kd.R_drewN | apply Kd.R_drew)); exact HO547.out⟩, ⟨by (with_reducible repeat (first | refine blk_drewN ?_ _ | refine blk_drew ?_ | refine blk_alloc ?_ _)); exact BK531.out⟩, ⟨by repeat (first | (with_reducible first | exact HB.out | apply below_alloc | apply pw_below_drewN | apply below_drew1 | refine below_set ?_ GE531.out | refine below_set ?_ GE540.out) | exact HB.out)⟩⟩
      ·
       rw [if_neg c16] at H
       exact absurd H (by simp)
     ·
      rw [if_neg c15] at H
      exact absurd H (by simp)
    ·
     rw [if_neg c14] at H
     have c14b0 : decide (x21_1 < (l0_0.length : Int)) = false := decide_eq_false c14
     clear c14
     replace H := Option.bind_eq_some_iff.mp H
     obtain ⟨t548, A290, H⟩ := H
     replace H : (content_EncodeAll.l1 k1 t548 l0_1 (l0_1.length : Int) 0 l0_0 l0_1 a0_2 a0_3 a0_4) = some (r1, r2) := H
     have A29 := Aside0.mk A290
     clear A290
     have H' := Aside0.mk H
     clear H
     have hcz30_0 : wr.cell? ⟨gb531, 0, none⟩ = some (.slice A0_0 l0_0.length c0_0) := (blk_cell BK531.out 0).trans rfl
     have hcz30_1 : wr.cell? ⟨gb531, 1, none⟩ = some (.slice A0_1 l0_1.length c0_1) := (blk_cell BK531.out 1).trans rfl
     have hcz30_2 : wr.cell? ⟨gb531, 2, none⟩ = some (.int .i64 a0_2) := (blk_cell BK531.out 2).trans rfl
     have hcz30_3 : wr.cell? ⟨gb531, 3, none⟩ = some (.int .u64 a0_3) := (blk_cell BK531.out 3).trans rfl
     have hcz30_4 : wr.cell? ⟨gb531, 4, none⟩ = some (.int .i64 a0_4) := (blk_cell BK531.out 4).trans rfl
     have hfz30_0 := blk_frozen BK531.out 0
     have hfz30_1 := blk_frozen BK531.out 1
     have hfz30_2 := blk_frozen BK531.out 2
     have hfz30_3 := blk_frozen BK531.out 3
     have hfz30_4 := blk_frozen BK531.out 4
     obtain ⟨Ao31, co31, eo31⟩ := Kd.R_slice HO_4.out
     subst eo31
     go_wp2_with (first | ((with_reducible refine gate_callee (f := 92) rfl ?_); refine goesL_ (some 42) rfl rfl Try.func92 (by kernel_rfl) rfl #[.slice Ao31 x4_1.length co31, .int .u64 (IntKind.u64.wrap ((l0_1.length : Int)))] rfl za_ ?_; (with_reducible refine (code_Uint.calls k1 (fun k_ => some k_ = (.slice Ao31 x4_1.length co31 : Value).ownBlock) (.slice Ao31 x4_1.length co31) x4_1 (IntKind.u64.wrap ((l0_1.length : Int))) t548 w _ ?side1 ?side2 A29.out).mono ?_); (case side1 => repeat (first | (with_reducible first | exact HB.out | apply below_alloc | apply pw_below_drewN | apply below_drew1 | refine below_set ?_ GE531.out) | exact HB.out)); (case side2 => exact Kd.R_tight rfl HO_4.out); rintro e w32 ⟨v549, rfl, ho0, hb, hkp⟩; refine ⟨_, rfl, ?_⟩; have n0_ := Aside0.mk (blk_kept (by (with_reducible repeat (first | refine blk_drewN ?_ _ | refine blk_drew ?_ | refine blk_alloc ?_ _)); exact BK531.out) hkp (fun hs_ => (fun e_ => (Kd.R_ne HO_4.out BK531.out (by decide)) e_) hs_)); have n1_ := Aside0.mk (Kd.R_mono (ok' := fun k_ => True) ho0 (fun k_ hk_ => trivial)); have n2_ := Aside0.mk (hb); clear BK531; clear HB; clear HO_4; have BK531 := n0_; have HO550 := n1_; have HB := n2_; clear n0_ n1_ n2_; (try clear hb); (try clear hkp); (try clear ho0); have hcz33_0 : w32.cell? ⟨gb531, 0, none⟩ = some (.slice A0_0 l0_0.length c0_0) := (blk_cell BK531.out 0).trans rfl; have hcz33_1 : w32.cell? ⟨gb531, 1, none⟩ = some (.slice A0_1 l0_1.length c0_1) := (blk_cell BK531.out 1).trans rfl; have hcz33_2 : w32.cell? ⟨gb531, 2, none⟩ = some (.int .i64 a0_2) := (blk_cell BK531.out 2).trans rfl; have hcz33_3 : w32.cell? ⟨gb531, 3, none⟩ = some (.int .u64 a0_3) := (blk_cell BK531.out 3).trans rfl; have hcz33_4 : w32.cell? ⟨gb531, 4, none⟩ = some (.int .i64 a0_4) := (blk_cell BK531.out 4).trans rfl; have hfz33_0 := blk_frozen BK531.out 0; have hfz33_1 := blk_frozen BK531.out 1; have hfz33_2 := blk_frozen BK531.out 2; have hfz33_3 := blk_frozen BK531.out 3; have hfz33_4 := blk_frozen BK531.out 4))
     go_loopg [4, 46] k1 (fun kq v4 v46 w' => ∃ (x4_2 : List Int) (x46_2 : Int), v46 = .int .i64 x46_2 ∧ Aside0 (content_EncodeAll.l1 kq x4_2 l0_1 (l0_1.length : Int) x46_2 l0_0 l0_1 a0_2 a0_3 a0_4 = some (r1, r2)) ∧ Aside0 (kq ≤ k1) ∧ Aside0 (Kd.R (Kd.int .u8) 5 w' w.heap.size (fun _ => True) v4 x4_2) ∧ Aside0 (w'.heap[gb531]? = some (.cells #[(.slice A0_0 l0_0.length c0_0), (.slice A0_1 l0_1.length c0_1), .int .i64 a0_2, .int .u64 a0_3, .int .i64 a0_4] 53 (0, 0))) ∧ Aside0 (Below w.heap.size w w'))
     case atStart => exact ⟨(t548), (0), (by first | rfl | (simp; done) | (simp [*]; done)), H', ⟨Nat.le_refl _⟩, ⟨by (with_reducible repeat (first | apply Kd.R_alloc | apply Kd.R_drewN | apply Kd.R_drew)); exact HO550.out⟩, ⟨by (with_reducible repeat (first | refine blk_drewN ?_ _ | refine blk_drew ?_ | refine blk_alloc ?_ _)); exact BK531.out⟩, ⟨by repeat (first | (with_reducible first | exact HB.out | apply below_alloc | apply pw_below_drewN | apply below_drew1 | refine below_set ?_ GE531.out) | exact HB.out)⟩⟩
     case round =>
      clear H'
      try clear c1
      try clear c2
      try clear p2
      try clear c3
      try clear c4
      try clear c5
      try clear p5
      try clear q5
      try clear hx5
      try clear p6
      try clear c9
      try clear c14
      try clear c14b0
      try clear c15
      try clear c15b0
      try clear c16
      try clear c16b0
      try clear c20
      try clear hcz10_0
      try clear hcz10_1
      try clear hcz10_2
      try clear hcz10_3
      try clear hcz10_4
      try clear hcz13_0
      try clear hcz13_1
      try clear hcz13_2
      try clear hcz13_3
      try clear hcz13_4
      try clear hcz21_0
      try clear hcz21_1
      try clear hcz21_2
      try clear hcz21_3
      try clear hcz21_4
      try clear hcz23_0
      try clear hcz23_1
      try clear hcz23_2
      try clear hcz23_3
      try clear hcz23_4
      try clear hcz26_0
      try clear hcz26_1
      try clear hcz26_2
      try clear hcz26_3
      try clear hcz26_4
      try clear hcz30_0
      try clear hcz30_1
      try clear hcz30_2
      try clear hcz30_3
      try clear hcz30_4
      try clear hcz33_0
      try clear hcz33_1
      try clear hcz33_2
      try clear hcz33_3
      try clear hcz33_4
      try clear hcz6_0
      try clear hcz6_1
      try clear hcz6_2
      try clear hcz6_3
      try clear hcz6_4
      try clear hfz10_0
      try clear hfz10_1
      try clear hfz10_2
      try clear hfz10_3
      try clear hfz10_4
      try clear hfz13_0
      try clear hfz13_1
      try clear hfz13_2
      try clear hfz13_3
      try clear hfz13_4
      try clear hfz21_0
      try clear hfz21_1
      try clear hfz21_2
      try clear hfz21_3
      try clear hfz21_4
      try clear hfz23_0
      try clear hfz23_1
      try clear hfz23_2
      try clear hfz23_3
      try clear hfz23_4
      try clear hfz26_0
      try clear hfz26_1
      try clear hfz26_2
      try clear hfz26_3
      try clear hfz26_4
      try clear hfz30_0
      try clear hfz30_1
      try clear hfz30_2
      try clear hfz30_3
      try clear hfz30_4
      try clear hfz33_0
      try clear hfz33_1
      try clear hfz33_2
      try clear hfz33_3
      try clear hfz33_4
      try clear hfz6_0
      try clear hfz6_1
      try clear hfz6_2
      try clear hfz6_3
      try clear hfz6_4
      try clear hx539_0
      try clear hx539_1
      try clear hx539_2
      try clear hx539_3
      try clear hx539_4
      try clear p2
      try clear p539
      try clear q539
      obtain ⟨x4_2, x46_2, rfl, HA, HK2, HO_4, BK531, HB⟩ := hrel
      cases gk with
      | zero => exact absurd HA.out (by simp [content_EncodeAll.l1])
      | succ k2 =>
       have H := HA.out
       clear HA
       simp only [content_EncodeAll.l1] at H
       by_cases c34 : x46_2 < (l0_1.length : Int)
       ·
        rw [if_pos c34] at H
        have c34b0 : decide (x46_2 < (l0_1.length : Int)) = true := decide_eq_true c34
        clear c34
        by_cases c35 : 0 ≤ x46_2
        ·
         rw [if_pos c35] at H
         have c35b0 : decide (0 ≤ x46_2) = true := decide_eq_true c35
         clear c35
         by_cases c36 : x46_2 < (l0_1.length : Int)
         ·
          rw [if_pos c36] at H
          have c36b0 : decide (x46_2 < (l0_1.length : Int)) = true := decide_eq_true c36
          clear c36
          replace H := Option.bind_eq_some_iff.mp H
          obtain ⟨⟨t553, t556⟩, A370, H⟩ := H
          replace H : (content_EncodeAll.l1 k2 t553 l0_1 (l0_1.length : Int) (wrap64 (x46_2 + 1)) l0_0 l0_1 a0_2 a0_3 a0_4) = some (r1, r2) := H
          have A37 := Aside0.mk A370
          clear A370
          have H' := Aside0.mk H
          clear H
          have p551 : 0 ≤ (x46_2 : Int) := of_decide_eq_true zs_
          have q551 : x46_2 < (l0_1.length : Int) := of_decide_eq_true zs_
          obtain ⟨ad551, e551, hx551_0, hx551_1, hx551_2, hx551_3⟩ := at_T27 HR0_1.out x46_2 p551 q551
          cases e551
          replace hx551_0 := (HB.out.cell (World.block_lt_of_cell? w _ hx551_0)).trans hx551_0
          replace hx551_1 := (HB.out.cell (World.block_lt_of_cell? w _ hx551_1)).trans hx551_1
          replace hx551_2 := (HB.out.cell (World.block_lt_of_cell? w _ hx551_2)).trans hx551_2
          replace hx551_3 := (HB.out.cell (World.block_lt_of_cell? w _ hx551_3)).trans hx551_3
          replace p551 := eq_true p551
          replace q551 := eq_true q551
          go_wp2_with (first | ((with_reducible refine gate_dst (N := 8) rfl ?_); refine box_event ?hg (N := 8) ?hd (cs := #[.int .u64 0, .int .i64 0, .int .u64 0, .int .i64 0]) (t := 27) ?hr ?_; (case hd => rfl); (case hg => rfl); (case hr => first | (go_simp; done) | (go_simp; rfl)); intro gb552 hg w38 hbox hb; have n0_ := Aside0.mk (Kd.R_below (zr_ HO_4) hb); have n1_ := zk_ BK531 hb; have n2_ := Aside0.mk (below_step zb_ hb); have n3_ := Aside0.mk (hbox); have n4_ := Aside0.mk ((by rw [hg]; exact (below_size zb_) : w.heap.size ≤ gb552)); have n5_ := Aside0.mk ((by rw [hg]; exact (below_size zb_) : w.heap.size ≤ gb552)); have n6_ := Aside0.mk ((by rw [hg]; exact Nat.ne_of_lt (blk_lt (g := gb531) (o := .cells #[.slice A0_0 l0_0.length c0_0, .slice (some ad551) l0_1.length c0_1, .int .i64 a0_2, .int .u64 a0_3, .int .i64 a0_4] 53 (0, 0)) (by (with_reducible repeat (first | refine blk_drewN ?_ _ | refine blk_drew ?_ | refine blk_alloc ?_ _)); exact BK531.out)) : gb531 ≠ gb552)); have n7_ := Aside0.mk ((by rw [hg]; exact Nat.ne_of_gt (blk_lt (g := gb531) (o := .cells #[.slice A0_0 l0_0.length c0_0, .slice (some ad551) l0_1.length c0_1, .int .i64 a0_2, .int .u64 a0_3, .int .i64 a0_4] 53 (0, 0)) (by (with_reducible repeat (first | refine blk_drewN ?_ _ | refine blk_drew ?_ | refine blk_alloc ?_ _)); exact BK531.out)) : gb552 ≠ gb531)); clear HO_4; clear BK531; clear HB; have HO_4 := n0_; have BK531 := n1_; have HB := n2_; have BK552 := n3_; have GW552 := n4_; have GE552 := n5_; have NB531_552 := n6_; have NB552_531 := n7_; clear n0_ n1_ n2_ n3_ n4_ n5_ n6_ n7_; clear hb hbox hg; have hnb39 := NB552_531.out; have hnc39 := NB531_552.out; have hcz40_0 : w38.cell? ⟨gb552, 0, none⟩ = some (.int .u64 0) := (blk_cell BK552.out 0).trans rfl; have hcz40_1 : w38.cell? ⟨gb552, 1, none⟩ = some (.int .i64 0) := (blk_cell BK552.out 1).trans rfl; have hcz40_2 : w38.cell? ⟨gb552, 2, none⟩ = some (.int .u64 0) := (blk_cell BK552.out 2).trans rfl; have hcz40_3 : w38.cell? ⟨gb552, 3, none⟩ = some (.int .i64 0) := (blk_cell BK552.out 3).trans rfl; have hfz40_0 := blk_frozen BK552.out 0; have hfz40_1 := blk_frozen BK552.out 1; have hfz40_2 := blk_frozen BK552.out 2; have hfz40_3 := blk_frozen BK552.out 3) | ((with_reducible refine gate_store (t := 27) (p := 8) rfl ?_); refine store_event (t := 27) (p := 8) (v := ?vo_w41) (w1 := ((((w38.setCell ⟨gb552, 0, none⟩ (.int .u64 ((rd_T27 l0_1 x46_2).f0.f0))).setCell ⟨gb552, 1, none⟩ (.int .i64 ((rd_T27 l0_1 x46_2).f0.f1))).setCell ⟨gb552, 2, none⟩ (.int .u64 ((rd_T27 l0_1 x46_2).f1))).setCell ⟨gb552, 3, none⟩ (.int .i64 ((rd_T27 l0_1 x46_2).f2)))) ?hg ?ho ?hn ?hr ?_; (case ho => rfl); (case hg => rfl); (case hn => rfl); (case hr => first | (go_simp; done) | (go_simp; rfl)); intro w41 hw; have n0_ : Aside0 (Kd.R (Kd.int .u8) 5 w41 w.heap.size (fun _ => True) u4 x4_2) := ⟨(by rw [hw]; exact (by (with_reducible repeat (first | apply Kd.R_alloc | apply Kd.R_drewN | apply Kd.R_drew)); exact Kd.R_mono (Kd.R_far (p := ⟨gb552, 3, none⟩) (Kd.R_far (p := ⟨gb552, 2, none⟩) (Kd.R_far (p := ⟨gb552, 1, none⟩) (Kd.R_far (p := ⟨gb552, 0, none⟩) (Kd.R_types HO_4.out BK552.out (by decide)) (fun _ hk => hk.2) (.int .u64 ((rd_T27 l0_1 x46_2).f0.f0))) (fun _ hk => hk.2) (.int .i64 ((rd_T27 l0_1 x46_2).f0.f1))) (fun _ hk => hk.2) (.int .u64 ((rd_T27 l0_1 x46_2).f1))) (fun _ hk => hk.2) (.int .i64 ((rd_T27 l0_1 x46_2).f2))) (fun _ hk => trivial)))⟩; have n1_ : Aside0 (w41.heap[gb531]? = some (.cells #[.slice A0_0 l0_0.length c0_0, .slice (some ad551) l0_1.length c0_1, .int .i64 a0_2, .int .u64 a0_3, .int .i64 a0_4] 53 (0, 0))) := ⟨(by rw [hw]; exact (by (with_reducible repeat (first | refine blk_drewN ?_ _ | refine blk_drew ?_ | refine blk_alloc ?_ _)); refine blk_far ?_ NB531_552.out _; (with_reducible repeat (first | refine blk_drewN ?_ _ | refine blk_drew ?_ | refine blk_alloc ?_ _)); refine blk_far ?_ NB531_552.out _; (with_reducible repeat (first | refine blk_drewN ?_ _ | refine blk_drew ?_ | refine blk_alloc ?_ _)); refine blk_far ?_ NB531_552.out _; (with_reducible repeat (first | refine blk_drewN ?_ _ | refine blk_drew ?_ | refine blk_alloc ?_ _)); refine blk_far ?_ NB531_552.out _; (with_reducible repeat (first | refine blk_drewN ?_ _ | refine blk_drew ?_ | refine blk_alloc ?_ _)); exact BK531.out))⟩; have n2_ : Aside0 (w41.heap[gb552]? = some (.cells #[.int .u64 ((rd_T27 l0_1 x46_2).f0.f0), .int .i64 ((rd_T27 l0_1 x46_2).f0.f1), .int .u64 ((rd_T27 l0_1 x46_2).f1), .int .i64 ((rd_T27 l0_1 x46_2).f2)] 27 (0, 0))) := ⟨(by rw [hw]; exact (by (with_reducible repeat (first | refine blk_drewN ?_ _ | refine blk_drew ?_ | refine blk_alloc ?_ _)); refine blk_put (cs := #[.int .u64 ((rd_T27 l0_1 x46_2).f0.f0), .int .i64 ((rd_T27 l0_1 x46_2).f0.f1), .int .u64 ((rd_T27 l0_1 x46_2).f1), .int .i64 0]) ?_ 3 _ rfl; (with_reducible repeat (first | refine blk_drewN ?_ _ | refine blk_drew ?_ | refine blk_alloc ?_ _)); refine blk_put (cs := #[.int .u64 ((rd_T27 l0_1 x46_2).f0.f0), .int .i64 ((rd_T27 l0_1 x46_2).f0.f1), .int .u64 0, .int .i64 0]) ?_ 2 _ rfl; (with_reducible repeat (first | refine blk_drewN ?_ _ | refine blk_drew ?_ | refine blk_alloc ?_ _)); refine blk_put (cs := #[.int .u64 ((rd_T27 l0_1 x46_2).f0.f0), .int .i64 0, .int .u64 0, .int .i64 0]) ?_ 1 _ rfl; (with_reducible repeat (first | refine blk_drewN ?_ _ | refine blk_drew ?_ | refine blk_alloc ?_ _)); refine blk_put (cs := #[.int .u64 0, .int .i64 0, .int .u64 0, .int .i64 0]) ?_ 0 _ rfl; (with_reducible repeat (first | refine blk_drewN ?_ _ | refine blk_drew ?_ | refine blk_alloc ?_ _)); exact BK552.out))⟩; have n3_ : Aside0 (Below w.heap.size w w41) := ⟨(by rw [hw]; exact zb_)⟩; clear hw; clear HO_4; clear BK531; clear BK552; clear HB; have HO_4 := n0_; have BK531 := n1_; have BK552 := n2_; have HB := n3_; clear n0_ n1_ n2_ n3_; have hcz42_0 : w41.cell? ⟨gb552, 0, none⟩ = some (.int .u64 ((rd_T27 l0_1 x46_2).f0.f0)) := (blk_cell BK552.out 0).trans rfl; have hcz42_1 : w41.cell? ⟨gb552, 1, none⟩ = some (.int .i64 ((rd_T27 l0_1 x46_2).f0.f1)) := (blk_cell BK552.out 1).trans rfl; have hcz42_2 : w41.cell? ⟨gb552, 2, none⟩ = some (.int .u64 ((rd_T27 l0_1 x46_2).f1)) := (blk_cell BK552.out 2).trans rfl; have hcz42_3 : w41.cell? ⟨gb552, 3, none⟩ = some (.int .i64 ((rd_T27 l0_1 x46_2).f2)) := (blk_cell BK552.out 3).trans rfl; have hfz42_0 := blk_frozen BK552.out 0; have hfz42_1 := blk_frozen BK552.out 1; have hfz42_2 := blk_frozen BK552.out 2; have hfz42_3 := blk_frozen BK552.out 3; obtain ⟨Ao43, co43, eo43⟩ := Kd.R_slice HO_4.out; subst eo43) | ((with_reducible refine gate_callee (f := 90) rfl ?_); refine goesL_ (some 53) rfl rfl Try.func90 (by kernel_rfl) rfl #[.slice Ao43 x4_2.length co43, .agg #[.int .u64 ((rd_T27 l0_1 x46_2).f0.f0), .int .i64 ((rd_T27 l0_1 x46_2).f0.f1), .int .u64 ((rd_T27 l0_1 x46_2).f1), .int .i64 ((rd_T27 l0_1 x46_2).f2)]] rfl za_ ?_; (with_reducible refine (label_Encode.calls k2 (fun k_ => some k_ = (.slice Ao43 x4_2.length co43 : Value).ownBlock) (.slice Ao43 x4_2.length co43) x4_2 ((rd_T27 l0_1 x46_2).f0.f0) ((rd_T27 l0_1 x46_2).f0.f1) ((rd_T27 l0_1 x46_2).f1) ((rd_T27 l0_1 x46_2).f2) t553 t556 w _ ?side1 ?side2 A37.out).mono ?_); (case side1 => repeat (first | (with_reducible first | exact HB.out | apply below_alloc | apply pw_below_drewN | apply below_drew1 | refine below_set ?_ GE531.out | refine below_set ?_ GE552.out) | exact HB.out)); (case side2 => exact Kd.R_tight rfl HO_4.out); rintro e w44 ⟨v554, rfl, ho0, hb, hkp⟩; refine ⟨_, rfl, ?_⟩; have n0_ := Aside0.mk (blk_kept (by (with_reducible repeat (first | refine blk_drewN ?_ _ | refine blk_drew ?_ | refine blk_alloc ?_ _)); exact BK531.out) hkp (fun hs_ => (fun e_ => (Kd.R_ne HO_4.out BK531.out (by decide)) e_) hs_)); have n1_ := Aside0.mk (blk_kept (by (with_reducible repeat (first | refine blk_drewN ?_ _ | refine blk_drew ?_ | refine blk_alloc ?_ _)); exact BK552.out) hkp (fun hs_ => (fun e_ => (Kd.R_ne HO_4.out BK552.out (by decide)) e_) hs_)); have n2_ := Aside0.mk (Kd.R_mono (ok' := fun k_ => True) ho0 (fun k_ hk_ => trivial)); have n3_ := Aside0.mk (hb); clear BK531; clear BK552; clear HB; clear HO_4; have BK531 := n0_; have BK552 := n1_; have HO555 := n2_; have HB := n3_; clear n0_ n1_ n2_ n3_; (try clear hb); (try clear hkp); (try clear ho0)))
          go_roundg k2
          case measure => have := HK1.out; have := HK2.out; omega
          case rel => exact ⟨(t553), (wrap64 (x46_2 + 1)), (by first | rfl | (simp; done) | (simp [*]; done)), H', ⟨by have := HK1.out; have := HK2.out; omega⟩, ⟨by (with_reducible repeat (first | apply Kd.R_alloc | apply Kd.R_drewN | apply Kd.R_drew)); exact HO555.out⟩, ⟨by (with_reducible repeat (first | refine blk_drewN ?_ _ | refine blk_drew ?_ | refine blk_alloc ?_ _)); exact BK531.out⟩, ⟨by repeat (first | (with_reducible first | exact HB.out | apply below_alloc | apply pw_below_drewN | apply below_drew1 | refine below_set ?_ GE531.out | refine below_set ?_ GE552.out) | exact HB.out)⟩⟩
         ·
          rw [if_neg c36] at H
          exact absurd H (by simp)
        ·
         rw [if_neg c35] at H
         exact absurd H (by simp)
       ·
        rw [if_neg c34] at H
        have c34b0 : decide (x46_2 < (l0_1.length : Int)) = false := decide_eq_false c34
        clear c34
        replace H := Option.bind_eq_some_iff.mp H
        obtain ⟨t557, A450, H⟩ := H
        replace H : ((ident_Encode.f k2 t557 a0_3 a0_4).bind fun bt560 => (some (bt560.1, 0))) = some (r1, r2) := H
        have A45 := Aside0.mk A450
        clear A450
        replace H := Option.bind_eq_some_iff.mp H
        obtain ⟨⟨t560, t563⟩, A460, H⟩ := H
        replace H : (some (t560, 0)) = some (r1, r2) := H
        have A46 := Aside0.mk A460
        clear A460
        simp only [Option.some.injEq, Prod.mk.injEq] at H
        obtain ⟨rfl, rfl⟩ := H
        have hcz47_0 : wr.cell? ⟨gb531, 0, none⟩ = some (.slice A0_0 l0_0.length c0_0) := (blk_cell BK531.out 0).trans rfl
        have hcz47_1 : wr.cell? ⟨gb531, 1, none⟩ = some (.slice A0_1 l0_1.length c0_1) := (blk_cell BK531.out 1).trans rfl
        have hcz47_2 : wr.cell? ⟨gb531, 2, none⟩ = some (.int .i64 a0_2) := (blk_cell BK531.out 2).trans rfl
        have hcz47_3 : wr.cell? ⟨gb531, 3, none⟩ = some (.int .u64 a0_3) := (blk_cell BK531.out 3).trans rfl
        have hcz47_4 : wr.cell? ⟨gb531, 4, none⟩ = some (.int .i64 a0_4) := (blk_cell BK531.out 4).trans rfl
        have hfz47_0 := blk_frozen BK531.out 0
        have hfz47_1 := blk_frozen BK531.out 1
        have hfz47_2 := blk_frozen BK531.out 2
        have hfz47_3 := blk_frozen BK531.out 3
        have hfz47_4 := blk_frozen BK531.out 4
        obtain ⟨Ao48, co48, eo48⟩ := Kd.R_slice HO_4.out
        subst eo48
        go_wp2_with (first | ((with_reducible refine gate_callee (f := 92) rfl ?_); refine goesL_ (some 61) rfl rfl Try.func92 (by kernel_rfl) rfl #[.slice Ao48 x4_2.length co48, .int .u64 (IntKind.u64.wrap (a0_2))] rfl za_ ?_; (with_reducible refine (code_Uint.calls k2 (fun k_ => some k_ = (.slice Ao48 x4_2.length co48 : Value).ownBlock) (.slice Ao48 x4_2.length co48) x4_2 (IntKind.u64.wrap (a0_2)) t557 w _ ?side1 ?side2 A45.out).mono ?_); (case side1 => repeat (first | (with_reducible first | exact HB.out | apply below_alloc | apply pw_below_drewN | apply below_drew1 | refine below_set ?_ GE531.out) | exact HB.out)); (case side2 => exact Kd.R_tight rfl HO_4.out); rintro e w49 ⟨v558, rfl, ho0, hb, hkp⟩; refine ⟨_, rfl, ?_⟩; have n0_ := Aside0.mk (blk_kept (by (with_reducible repeat (first | refine blk_drewN ?_ _ | refine blk_drew ?_ | refine blk_alloc ?_ _)); exact BK531.out) hkp (fun hs_ => (fun e_ => (Kd.R_ne HO_4.out BK531.out (by decide)) e_) hs_)); have n1_ := Aside0.mk (Kd.R_mono (ok' := fun k_ => True) ho0 (fun k_ hk_ => trivial)); have n2_ := Aside0.mk (hb); clear BK531; clear HB; clear HO_4; have BK531 := n0_; have HO559 := n1_; have HB := n2_; clear n0_ n1_ n2_; (try clear hb); (try clear hkp); (try clear ho0); have hcz50_0 : w49.cell? ⟨gb531, 0, none⟩ = some (.slice A0_0 l0_0.length c0_0) := (blk_cell BK531.out 0).trans rfl; have hcz50_1 : w49.cell? ⟨gb531, 1, none⟩ = some (.slice A0_1 l0_1.length c0_1) := (blk_cell BK531.out 1).trans rfl; have hcz50_2 : w49.cell? ⟨gb531, 2, none⟩ = some (.int .i64 a0_2) := (blk_cell BK531.out 2).trans rfl; have hcz50_3 : w49.cell? ⟨gb531, 3, none⟩ = some (.int .u64 a0_3) := (blk_cell BK531.out 3).trans rfl; have hcz50_4 : w49.cell? ⟨gb531, 4, none⟩ = some (.int .i64 a0_4) := (blk_cell BK531.out 4).trans rfl; have hfz50_0 := blk_frozen BK531.out 0; have hfz50_1 := blk_frozen BK531.out 1; have hfz50_2 := blk_frozen BK531.out 2; have hfz50_3 := blk_frozen BK531.out 3; have hfz50_4 := blk_frozen BK531.out 4; obtain ⟨Ao51, co51, eo51⟩ := Kd.R_slice HO559.out; subst eo51) | ((with_reducible refine gate_callee (f := 93) rfl ?_); refine goesL_ (some 66) rfl rfl Try.func93 (by kernel_rfl) rfl #[.slice Ao51 t557.length co51, .agg #[.int .u64 a0_3, .int .i64 a0_4]] rfl za_ ?_; (with_reducible refine (ident_Encode.calls k2 (fun k_ => some k_ = (.slice Ao51 t557.length co51 : Value).ownBlock) (.slice Ao51 t557.length co51) t557 a0_3 a0_4 t560 t563 w _ ?side1 ?side2 A46.out).mono ?_); (case side1 => repeat (first | (with_reducible first | exact HB.out | apply below_alloc | apply pw_below_drewN | apply below_drew1 | refine below_set ?_ GE531.out) | exact HB.out)); (case side2 => exact Kd.R_tight rfl HO559.out); rintro e w52 ⟨v561, rfl, ho0, hb, hkp⟩; refine ⟨_, rfl, ?_⟩; have n0_ := Aside0.mk (blk_kept (by (with_reducible repeat (first | refine blk_drewN ?_ _ | refine blk_drew ?_ | refine blk_alloc ?_ _)); exact BK531.out) hkp (fun hs_ => (fun e_ => (Kd.R_ne HO559.out BK531.out (by decide)) e_) hs_)); have n1_ := Aside0.mk (Kd.R_mono (ok' := fun k_ => True) ho0 (fun k_ hk_ => trivial)); have n2_ := Aside0.mk (hb); clear BK531; clear HB; clear HO559; have BK531 := n0_; have HO562 := n1_; have HB := n2_; clear n0_ n1_ n2_; (try clear hb); (try clear hkp); (try clear ho0)))
        go_ret2
        exact ⟨_, by first | rfl | (simp [errW_none, errW_some] <;> rfl) | (simp [*, errW_none, errW_some] <;> rfl), by (with_reducible repeat (first | apply Kd.R_alloc | apply Kd.R_drewN | apply Kd.R_drew)); exact HO562.out, by repeat (first | (with_reducible first | exact HB.out | apply below_alloc | apply pw_below_drewN | apply below_drew1 | refine below_set ?_ GE531.out) | exact HB.out)⟩
 ·
  replace c3 := Bool.eq_false_iff.mpr c3
  subst c3
  have H1 : (some (([] : List Int), 3)) = some (r1, r2) := by rw [if_neg (show ¬ (false = true) by decide)] at H; exact H
  clear H
  have H := H1
  clear H1
  simp only [Option.some.injEq, Prod.mk.injEq] at H
  obtain ⟨rfl, rfl⟩ := H
  go_enter Try.func47, Try.ntmps47
  go_wp2_with (first | ((with_reducible refine gate_dst (N := 1) rfl ?_); refine box_event ?hg (N := 1) ?hd (cs := #[.slice A0_0 l0_0.length c0_0, .slice A0_1 l0_1.length c0_1, .int .i64 a0_2, .int .u64 a0_3, .int .i64 a0_4]) (t := 53) ?hr ?_; (case hd => rfl); (case hg => rfl); (case hr => first | (go_simp; done) | (go_simp; rfl)); intro gb531 hg w53 hbox hb; have n0_ := Aside0.mk (below_step zb_ hb); have n1_ := Aside0.mk (hbox); have n2_ := Aside0.mk ((by rw [hg]; exact (below_size zb_) : w.heap.size ≤ gb531)); have n3_ := Aside0.mk ((by rw [hg]; exact (below_size zb_) : w.heap.size ≤ gb531)); clear HB; have HB := n0_; have BK531 := n1_; have GW531 := n2_; have GE531 := n3_; clear n0_ n1_ n2_ n3_; clear hb hbox hg; have hcz54_0 : w53.cell? ⟨gb531, 0, none⟩ = some (.slice A0_0 l0_0.length c0_0) := (blk_cell BK531.out 0).trans rfl; have hcz54_1 : w53.cell? ⟨gb531, 1, none⟩ = some (.slice A0_1 l0_1.length c0_1) := (blk_cell BK531.out 1).trans rfl; have hcz54_2 : w53.cell? ⟨gb531, 2, none⟩ = some (.int .i64 a0_2) := (blk_cell BK531.out 2).trans rfl; have hcz54_3 : w53.cell? ⟨gb531, 3, none⟩ = some (.int .u64 a0_3) := (blk_cell BK531.out 3).trans rfl; have hcz54_4 : w53.cell? ⟨gb531, 4, none⟩ = some (.int .i64 a0_4) := (blk_cell BK531.out 4).trans rfl; have hfz54_0 := blk_frozen BK531.out 0; have hfz54_1 := blk_frozen BK531.out 1; have hfz54_2 := blk_frozen BK531.out 2; have hfz54_3 := blk_frozen BK531.out 3; have hfz54_4 := blk_frozen BK531.out 4) | ((with_reducible refine gate_callee (f := 53) rfl ?_); refine goesL_ (some 10) rfl rfl Try.func53 (by kernel_rfl) rfl #[.agg #[.slice A0_0 l0_0.length c0_0, .slice A0_1 l0_1.length c0_1, .int .i64 a0_2, .int .u64 a0_3, .int .i64 a0_4]] rfl za_ ?_; (with_reducible refine (content_Right.calls k _ _ l0_0 _ _ l0_1 a0_2 a0_3 a0_4 false _ ?side1 ?side2 ?side3 ?side4 A2.out).mono ?_); (case side1 => exact zc_ HR0_0 HB); (case side2 => exact HC0_0.out); (case side3 => exact zc_ HR0_1 HB); (case side4 => exact HC0_1.out); rintro e w55 ⟨rfl, hb⟩; refine ⟨_, rfl, ?_⟩; have n0_ := zk_ BK531 hb; have n1_ := Aside0.mk (below_step zb_ hb); clear BK531; clear HB; have BK531 := n0_; have HB := n1_; clear n0_ n1_; (try clear hb); (try clear hb2); (try clear hk); (try clear hi)))
  go_ret2
  exact ⟨_, by first | rfl | (simp [errW_none, errW_some] <;> rfl) | (simp [*, errW_none, errW_some] <;> rfl), by first | exact Kd.R_nil _ _ _ _ _ | exact Kd.N_nil _ _ _ _ _ | exact Kd.V_nil _ _ _ _ _ | exact Kd.Q_nil _ _ _ _ _ | exact Kd.S_nil _ _ _ _ _, by repeat (first | (with_reducible first | exact HB.out | apply below_alloc | apply pw_below_drewN | apply below_drew1 | refine below_set ?_ GE531.out) | exact HB.out)⟩
end Go.Proofs.Ytioooiflpabngaa.PAll
end
section
namespace Go.Proofs.Ytioooiflpabngaa.PAll
open Go.RowKit Go.Proofs.YtioooiflpabngaaW.PrintWords Go.Proofs.YtioooiflpabngaaW.PrintLast Go.Proofs.YtioooiflpabngaaW.PrintMore
attribute [local go_sem] max2_int min2_int max_two min_two max_three min_three max_four min_four   -- for this text's walks alone
set_option linter.unusedVariables false
set_option linter.unusedSimpArgs false
def folkmootref15_Rising.l0 : Nat → List (S32) → Int → Option (Bool)
 | 0, _, _ => none
 | k + 1, x0, x3 => if x3 < (x0.length : Int) then (if 0 ≤ (wrap64 (x3 - 1)) then (if (wrap64 (x3 - 1)) < (x0.length : Int) then (if 0 ≤ x3 then ((folkmootref05_Less.f k ((rd_T32 x0 (wrap64 (x3 - 1))).f0.f0.f0) ((rd_T32 x0 (wrap64 (x3 - 1))).f0.f0.f1) ((rd_T32 x0 (wrap64 (x3 - 1))).f0.f1) ((rd_T32 x0 (wrap64 (x3 - 1))).f0.f2) ((rd_T32 x0 x3).f0.f0.f0) ((rd_T32 x0 x3).f0.f0.f1) ((rd_T32 x0 x3).f0.f1) ((rd_T32 x0 x3).f0.f2)).bind fun t285 => (if t285 = true then (folkmootref15_Rising.l0 k x0 (wrap64 (x3 + 1))) else (some false))) else (none)) else (none)) else (none)) else (some true)
def folkmootref15_Rising.f (k : Nat) (l0 : List (S32)) : Option (Bool) := folkmootref15_Rising.l0 k l0 1
def folkmootref15_Rising.T4 : Bool × List (List Nat × List Nat) := (true, [([], []), ([], []), ([1], [1]), ([0, 2], [0, 2]), ([3], [3]), ([4], [4]), ([], []), ([], []), ([6, 7], [6, 7]), ([8], [8]), ([9], [9]), ([5, 10], [5, 10]), ([11], [11])])
def folkmootref15_Rising.B4 : List Nat := [0, 0, 2, 7, 15, 31, 0, 0, 192, 448, 960, 2047, 4095]
theorem folkmootref15_Rising.tab4 : rtab .any (opsOf Try.f29 4) = folkmootref15_Rising.T4 := by kernel_rfl
theorem folkmootref15_Rising.bits4 : waitsOk folkmootref15_Rising.T4.2 folkmootref15_Rising.B4 = true := by kernel_rfl
set_option maxHeartbeats 8000000 in
set_option maxRecDepth 100000 in
theorem folkmootref15_Rising.calls (k : Nat) (A0 : Option Addr) (c0 : Nat) (l0 : List (S32)) (r : Bool) (w : World) (hr0 : Kd.C k32 w A0 l0.length l0) (hc0 : l0.length ≤ c0) (h : folkmootref15_Rising.f k l0 = some r) :
  Calls Try.prog 29 #[.slice A0 l0.length c0] w fun e w' => e = .returned (.bool r) ∧ Below w.heap.size w w' := by
 have hu27 := Try.underlying27
 have HR0 := Aside0.mk hr0
 have HC0 := Aside0.mk hc0
 clear hr0 hc0
 have HB := Aside0.mk (Below.refl w.heap.size w)
 have H : (folkmootref15_Rising.l0 k l0 1) = some r := h
 clear h
 have H' := Aside0.mk H
 clear H
 go_enter Try.func29, Try.ntmps29
 go_wp2
 go_loopg [3] k (fun kq v3 w' => ∃ (x3_1 : Int), v3 = .int .i64 x3_1 ∧ Aside0 (folkmootref15_Rising.l0 kq l0 x3_1 = some r) ∧ Aside0 (kq ≤ k) ∧ Aside0 (Below w.heap.size w w'))
 case atStart => exact ⟨(1), (by first | rfl | (simp; done) | (simp [*]; done)), H', ⟨Nat.le_refl _⟩, ⟨by repeat (first | (with_reducible first | exact HB.out | apply below_alloc | apply pw_below_drewN | apply below_drew1) | exact HB.out)⟩⟩
 case round =>
  clear H'
  obtain ⟨x3_1, rfl, HA, HK1, HB⟩ := hrel
  cases gk with
  | zero => exact absurd HA.out (by simp [folkmootref15_Rising.l0])
  | succ k1 =>
   have H := HA.out
   clear HA
   simp only [folkmootref15_Rising.l0] at H
   by_cases c2 : x3_1 < (l0.length : Int)
   ·
    rw [if_pos c2] at H
    have c2b0 : decide (x3_1 < (l0.length : Int)) = true := decide_eq_true c2
    clear c2
    obtain ⟨ji3, hji3⟩ : ∃ j_ : Int, (wrap64 (x3_1 - 1)) = j_ := ⟨_, rfl⟩
    replace H : (if 0 ≤ (ji3) then (if (ji3) < (l0.length : Int) then (if 0 ≤ x3_1 then ((folkmootref05_Less.f k1 ((rd_T32 l0 (ji3)).f0.f0.f0) ((rd_T32 l0 (ji3)).f0.f0.f1) ((rd_T32 l0 (ji3)).f0.f1) ((rd_T32 l0 (ji3)).f0.f2) ((rd_T32 l0 x3_1).f0.f0.f0) ((rd_T32 l0 x3_1).f0.f0.f1) ((rd_T32 l0 x3_1).f0.f1) ((rd_T32 l0 x3_1).f0.f2)).bind fun t285 => (if t285 = true then (folkmootref15_Rising.l0 k1 l0 (wrap64 (x3_1 + 1))) else (some false))) else (none)) else (none)) else (none)) = some r := by first | (rw [hji3] at H; exact H) | (simp only [hji3] at H ⊢; exact H)
    have hji3w : (IntKind.i64.wrap (x3_1 - 1)) = ji3 := (i64_w _).trans hji3
    by_cases c4 : 0 ≤ (ji3)
    ·
     rw [if_pos c4] at H
     have c4b0 : decide (0 ≤ (ji3)) = true := decide_eq_true c4
     clear c4
     by_cases c5 : (ji3) < (l0.length : Int)
     ·
      rw [if_pos c5] at H
      have c5b0 : decide ((ji3) < (l0.length : Int)) = true := decide_eq_true c5
      clear c5
      by_cases c6 : 0 ≤ x3_1
      ·
       rw [if_pos c6] at H
       have c6b0 : decide (0 ≤ x3_1) = true := decide_eq_true c6
       clear c6
       replace H := Option.bind_eq_some_iff.mp H
       obtain ⟨t285, A70, H⟩ := H
       replace H : (if t285 = true then (folkmootref15_Rising.l0 k1 l0 (wrap64 (x3_1 + 1))) else (some false)) = some r := H
       have A7 := Aside0.mk A70
       clear A70
       by_cases c8 : t285 = true
       ·
        subst c8
        have H1 : (folkmootref15_Rising.l0 k1 l0 (wrap64 (x3_1 + 1))) = some r := by rw [if_pos rfl] at H; exact H
        clear H
        have H := H1
        clear H1
        have H' := Aside0.mk H
        clear H
        try go_wp2
        have n0_ := Aside0.mk (below_drew1 HB.out)
        clear HB
        have HB := n0_
        clear n0_
        have p283 : 0 ≤ ((ji3) : Int) := of_decide_eq_true zs_
        have q283 : (ji3) < (l0.length : Int) := of_decide_eq_true zs_
        obtain ⟨ad283, A283_4, c283_4, e283, hx283_0, hx283_1, hx283_2, hx283_3, hx283_4, hl283_4, hi283_4⟩ := at_T32 HR0.out (ji3) p283 q283
        have hw283_4 := hx283_4
        have hw283_3 := hx283_3
        have hw283_2 := hx283_2
        have hw283_1 := hx283_1
        have hw283_0 := hx283_0
        cases e283
        replace hx283_0 := (HB.out.cell (World.block_lt_of_cell? w _ hx283_0)).trans hx283_0
        replace hx283_1 := (HB.out.cell (World.block_lt_of_cell? w _ hx283_1)).trans hx283_1
        replace hx283_2 := (HB.out.cell (World.block_lt_of_cell? w _ hx283_2)).trans hx283_2
        replace hx283_3 := (HB.out.cell (World.block_lt_of_cell? w _ hx283_3)).trans hx283_3
        replace hx283_4 := (HB.out.cell (World.block_lt_of_cell? w _ hx283_4)).trans hx283_4
        have HR283_4 := Aside0.mk hi283_4
        have HC283_4 := Aside0.mk hl283_4
        clear hi283_4 hl283_4
        replace p283 := eq_true p283
        replace q283 := eq_true q283
        have p284 : 0 ≤ (x3_1 : Int) := of_decide_eq_true zs_
        have q284 : x3_1 < (l0.length : Int) := of_decide_eq_true zs_
        obtain ⟨ad284, A284_4, c284_4, e284, hx284_0, hx284_1, hx284_2, hx284_3, hx284_4, hl284_4, hi284_4⟩ := at_T32 HR0.out x3_1 p284 q284
        have hw284_4 := hx284_4
        have hw284_3 := hx284_3
        have hw284_2 := hx284_2
        have hw284_1 := hx284_1
        have hw284_0 := hx284_0
        obtain rfl : ad283 = ad284 := (by injection e284)
        replace hx284_0 := (HB.out.cell (World.block_lt_of_cell? w _ hx284_0)).trans hx284_0
        replace hx284_1 := (HB.out.cell (World.block_lt_of_cell? w _ hx284_1)).trans hx284_1
        replace hx284_2 := (HB.out.cell (World.block_lt_of_cell? w _ hx284_2)).trans hx284_2
        replace hx284_3 := (HB.out.cell (World.block_lt_of_cell? w _ hx284_3)).trans hx284_3
        replace hx284_4 := (HB.out.cell (World.block_lt_of_cell? w _ hx284_4)).trans hx284_4
        have HR284_4 := Aside0.mk hi284_4
        have HC284_4 := Aside0.mk hl284_4
        clear hi284_4 hl284_4
        replace p284 := eq_true p284
        replace q284 := eq_true q284
        refine start_ (n := 13) (S := fun w' => w'.cell? (ad283.add (((ji3)).toNat * 5)) = some (.int .u64 ((rd_T32 l0 (ji3)).f0.f0.f0)) ∧ w'.cell? ⟨(ad283.add (((ji3)).toNat * 5)).block, (ad283.add (((ji3)).toNat * 5)).off + 1, none⟩ = some (.int .i64 ((rd_T32 l0 (ji3)).f0.f0.f1)) ∧ w'.cell? ⟨(ad283.add (((ji3)).toNat * 5)).block, (ad283.add (((ji3)).toNat * 5)).off + 2, none⟩ = some (.int .u64 ((rd_T32 l0 (ji3)).f0.f1)) ∧ w'.cell? ⟨(ad283.add (((ji3)).toNat * 5)).block, (ad283.add (((ji3)).toNat * 5)).off + 3, none⟩ = some (.int .i64 ((rd_T32 l0 (ji3)).f0.f2)) ∧ w'.cell? ⟨(ad283.add (((ji3)).toNat * 5)).block, (ad283.add (((ji3)).toNat * 5)).off + 4, none⟩ = some (.slice A283_4 ((rd_T32 l0 (ji3)).f1).length c283_4) ∧ w'.cell? (ad283.add ((x3_1).toNat * 5)) = some (.int .u64 ((rd_T32 l0 x3_1).f0.f0.f0)) ∧ w'.cell? ⟨(ad283.add ((x3_1).toNat * 5)).block, (ad283.add ((x3_1).toNat * 5)).off + 1, none⟩ = some (.int .i64 ((rd_T32 l0 x3_1).f0.f0.f1)) ∧ w'.cell? ⟨(ad283.add ((x3_1).toNat * 5)).block, (ad283.add ((x3_1).toNat * 5)).off + 2, none⟩ = some (.int .u64 ((rd_T32 l0 x3_1).f0.f1)) ∧ w'.cell? ⟨(ad283.add ((x3_1).toNat * 5)).block, (ad283.add ((x3_1).toNat * 5)).off + 3, none⟩ = some (.int .i64 ((rd_T32 l0 x3_1).f0.f2)) ∧ w'.cell? ⟨(ad283.add ((x3_1).toNat * 5)).block, (ad283.add ((x3_1).toNat * 5)).off + 4, none⟩ = some (.slice A284_4 ((rd_T32 l0 x3_1).f1).length c284_4)) (ds := []) #[F_,F_,F_,F_,F_,F_,F_,F_,F_,F_,F_,F_,F_] (by kernel_rfl) rfl rfl ⟨((HB.out.cell (World.block_lt_of_cell? w _ hw283_0)).trans hw283_0), ((HB.out.cell (World.block_lt_of_cell? w _ hw283_1)).trans hw283_1), ((HB.out.cell (World.block_lt_of_cell? w _ hw283_2)).trans hw283_2), ((HB.out.cell (World.block_lt_of_cell? w _ hw283_3)).trans hw283_3), ((HB.out.cell (World.block_lt_of_cell? w _ hw283_4)).trans hw283_4), ((HB.out.cell (World.block_lt_of_cell? w _ hw284_0)).trans hw284_0), ((HB.out.cell (World.block_lt_of_cell? w _ hw284_1)).trans hw284_1), ((HB.out.cell (World.block_lt_of_cell? w _ hw284_2)).trans hw284_2), ((HB.out.cell (World.block_lt_of_cell? w _ hw284_3)).trans hw284_3), ((HB.out.cell (World.block_lt_of_cell? w _ hw284_4)).trans hw284_4)⟩ (fun hHeld => ?_); refine with_tabW folkmootref15_Rising.tab4 folkmootref15_Rising.bits4 (fun HT_ HW_ => ?_)
        generalize wr.drew = w9 at HB HR283_4 HR284_4 hx283_0 hx283_1 hx283_2 hx283_3 hx283_4 hx284_0 hx284_1 hx284_2 hx284_3 hx284_4 hHeld ⊢
        refine pure_ (i := 0) (N := some 10) (v := ?_) (a' := ?_) #[T_,F_,F_,F_,F_,F_,F_,F_,F_,F_,F_,F_,F_] rfl rfl (any_of HT_.out (by kernel_rfl)) (fun _ _ _ h => h) (Or.inl ⟨by rfl, ?_⟩) ?_ ?_
        rotate_left
        ·
         intro w'; go_simp; with_reducible rfl
        rotate_left
        ·
         exact zp_
        refine pure_ (i := 1) (N := some 11) (v := ?_) (a' := ?_) #[T_,T_,F_,F_,F_,F_,F_,F_,F_,F_,F_,F_,F_] rfl rfl (any_of HT_.out (by kernel_rfl)) (fun _ _ _ h => h) (Or.inl ⟨by rfl, ?_⟩) ?_ ?_
        rotate_left
        ·
         intro w'; go_simp; with_reducible rfl
        rotate_left
        ·
         exact zp_
        refine pure_ (i := 2) (N := some 12) (v := ?_) (a' := ?_) #[T_,T_,T_,F_,F_,F_,F_,F_,F_,F_,F_,F_,F_] rfl rfl (any_of HT_.out (by kernel_rfl)) (fun _ _ _ h => h) (Or.inl ⟨by rfl, ?_⟩) ?_ ?_
        rotate_left
        ·
         intro w'; go_simp; with_reducible rfl
        rotate_left
        ·
         exact zp_
        refine pure_ (i := 3) (N := some 13) (v := ?_) (a' := ?_) #[T_,T_,T_,T_,F_,F_,F_,F_,F_,F_,F_,F_,F_] rfl rfl (any_of HT_.out (by kernel_rfl)) (fun _ _ _ h => h) (Or.inl ⟨by rfl, ?_⟩) ?_ ?_
        rotate_left
        ·
         intro w'; go_simp; with_reducible rfl
        rotate_left
        ·
         exact zp_
        refine pure_ (i := 4) (N := some 14) (v := ?_) (a' := ?_) #[T_,T_,T_,T_,T_,F_,F_,F_,F_,F_,F_,F_,F_] rfl rfl (any_of HT_.out (by kernel_rfl)) (fun _ _ _ h => h) (Or.inl ⟨by rfl, ?_⟩) ?_ ?_
        rotate_left
        ·
         intro w'; go_simp; with_reducible rfl
        rotate_left
        ·
         exact zp_
        refine pure_ (i := 6) (N := some 16) (v := ?_) (a' := ?_) #[T_,T_,T_,T_,T_,F_,T_,F_,F_,F_,F_,F_,F_] rfl rfl (any_of HT_.out (by kernel_rfl)) (fun _ _ _ h => h) (Or.inl ⟨by rfl, ?_⟩) ?_ ?_
        rotate_left
        ·
         intro w'; go_simp; with_reducible rfl
        rotate_left
        ·
         exact zp_
        refine pure_ (i := 7) (N := some 17) (v := ?_) (a' := ?_) #[T_,T_,T_,T_,T_,F_,T_,T_,F_,F_,F_,F_,F_] rfl rfl (any_of HT_.out (by kernel_rfl)) (fun _ _ _ h => h) (Or.inl ⟨by rfl, ?_⟩) ?_ ?_
        rotate_left
        ·
         intro w'; go_simp; with_reducible rfl
        rotate_left
        ·
         exact zp_
        refine pure_ (i := 8) (N := some 18) (v := ?_) (a' := ?_) #[T_,T_,T_,T_,T_,F_,T_,T_,T_,F_,F_,F_,F_] rfl rfl (any_of HT_.out (by kernel_rfl)) (fun _ _ _ h => h) (Or.inl ⟨by rfl, ?_⟩) ?_ ?_
        rotate_left
        ·
         intro w'; go_simp; with_reducible rfl
        rotate_left
        ·
         exact zp_
        refine pure_ (i := 9) (N := some 19) (v := ?_) (a' := ?_) #[T_,T_,T_,T_,T_,F_,T_,T_,T_,T_,F_,F_,F_] rfl rfl (any_of HT_.out (by kernel_rfl)) (fun _ _ _ h => h) (Or.inl ⟨by rfl, ?_⟩) ?_ ?_
        rotate_left
        ·
         intro w'; go_simp; with_reducible rfl
        rotate_left
        ·
         exact zp_
        refine take_ (i := 5) (N := some 15) (v := ?_) (a' := ?_) #[T_,T_,T_,T_,T_,T_,T_,T_,T_,T_,F_,F_,F_] rfl rfl (take_ofW HT_.out HW_.out (by kernel_rfl)) (fun _ _ _ h => h) (Or.inl ⟨by rfl, ?_⟩) hHeld ?_ ?_
        rotate_left
        ·
         rintro w' ⟨s0, s1, s2, s3, s4, s5, s6, s7, s8, s9⟩
         go_simp
         with_reducible rfl
        rotate_left
        ·
         exact zp_
        refine take_ (i := 10) (N := some 20) (v := ?_) (a' := ?_) #[T_,T_,T_,T_,T_,T_,T_,T_,T_,T_,T_,F_,F_] rfl rfl (take_ofW HT_.out HW_.out (by kernel_rfl)) (fun _ _ _ h => h) (Or.inl ⟨by rfl, ?_⟩) hHeld ?_ ?_
        rotate_left
        ·
         rintro w' ⟨s0, s1, s2, s3, s4, s5, s6, s7, s8, s9⟩
         go_simp
         with_reducible rfl
        rotate_left
        ·
         exact zp_
        refine one_ (i := 11) (N := some 21) #[T_,T_,T_,T_,T_,T_,T_,T_,T_,T_,T_,T_,F_] rfl rfl (one_of HT_.out (by kernel_rfl)) (by decide) (fun K hK => ?_)
        refine goes_ Try.func43 (by kernel_rfl) rfl #[.agg #[.int .u64 ((rd_T32 l0 (ji3)).f0.f0.f0), .int .i64 ((rd_T32 l0 (ji3)).f0.f0.f1), .int .u64 ((rd_T32 l0 (ji3)).f0.f1), .int .i64 ((rd_T32 l0 (ji3)).f0.f2)], .agg #[.int .u64 ((rd_T32 l0 x3_1).f0.f0.f0), .int .i64 ((rd_T32 l0 x3_1).f0.f0.f1), .int .u64 ((rd_T32 l0 x3_1).f0.f1), .int .i64 ((rd_T32 l0 x3_1).f0.f2)]] (by rfl) rfl rfl (by (try simp only [List.map_toArray, List.map_cons, List.map_nil]); first | done | (simp only [hji3]; rfl) | rfl | (simp only [List.length_drop, List.length_take]; rfl)) ?_
        with_reducible refine (folkmootref05_Less.calls k1 ((rd_T32 l0 (ji3)).f0.f0.f0) ((rd_T32 l0 (ji3)).f0.f0.f1) ((rd_T32 l0 (ji3)).f0.f1) ((rd_T32 l0 (ji3)).f0.f2) ((rd_T32 l0 x3_1).f0.f0.f0) ((rd_T32 l0 x3_1).f0.f0.f1) ((rd_T32 l0 x3_1).f0.f1) ((rd_T32 l0 x3_1).f0.f2) true _ A7.out).mono ?_
        rintro e w10 ⟨rfl, hb⟩
        refine ⟨_, rfl, ?_⟩
        have n0_ := Aside0.mk (below_step zb_ hb)
        clear HB
        have HB := n0_
        clear n0_
        (try clear hb)
        (try clear hb2)
        (try clear hk)
        (try clear hi)
        refine hK.out _ _ ⟨((HB.out.cell (World.block_lt_of_cell? w _ hw283_0)).trans hw283_0), ((HB.out.cell (World.block_lt_of_cell? w _ hw283_1)).trans hw283_1), ((HB.out.cell (World.block_lt_of_cell? w _ hw283_2)).trans hw283_2), ((HB.out.cell (World.block_lt_of_cell? w _ hw283_3)).trans hw283_3), ((HB.out.cell (World.block_lt_of_cell? w _ hw283_4)).trans hw283_4), ((HB.out.cell (World.block_lt_of_cell? w _ hw284_0)).trans hw284_0), ((HB.out.cell (World.block_lt_of_cell? w _ hw284_1)).trans hw284_1), ((HB.out.cell (World.block_lt_of_cell? w _ hw284_2)).trans hw284_2), ((HB.out.cell (World.block_lt_of_cell? w _ hw284_3)).trans hw284_3), ((HB.out.cell (World.block_lt_of_cell? w _ hw284_4)).trans hw284_4)⟩ (fun hHeld => ?_)
        clear hK K
        refine norm_ (a' := ?_) ?_ ?_
        rotate_left
        ·
         show Act.put _ (some 21) _ = _
         simp only [Act.put, List.setIfInBounds_toArray, List.set_cons_zero, List.set_cons_succ, i64_w, i32_w]
         rfl
        refine pure_ (i := 12) (N := some 22) (v := ?_) (a' := ?_) #[T_,T_,T_,T_,T_,T_,T_,T_,T_,T_,T_,T_,T_] rfl rfl (any_of HT_.out (by kernel_rfl)) (fun _ _ _ h => h) (Or.inl ⟨by rfl, ?_⟩) ?_ ?_
        rotate_left
        ·
         intro w'; go_simp; with_reducible rfl
        rotate_left
        ·
         exact zp_
        refine done_ (done_of HT_.out (by kernel_rfl)) ?_
        (try clear hHeld); (try clear HS0_)
        try go_wp2
        go_roundg k1
        case measure => have := HK1.out; omega
        case rel => exact ⟨(wrap64 (x3_1 + 1)), (by first | rfl | (simp; done) | (simp [*]; done)), H', ⟨by have := HK1.out; omega⟩, ⟨by repeat (first | (with_reducible first | exact HB.out | apply below_alloc | apply pw_below_drewN | apply below_drew1) | exact HB.out)⟩⟩
       ·
        replace c8 := Bool.eq_false_iff.mpr c8
        subst c8
        have H1 : (some false) = some r := by rw [if_neg (show ¬ (false = true) by decide)] at H; exact H
        clear H
        have H := H1
        clear H1
        obtain rfl := Option.some.inj H
        try go_wp2
        have n0_ := Aside0.mk (below_drew1 HB.out)
        clear HB
        have HB := n0_
        clear n0_
        have p283 : 0 ≤ ((ji3) : Int) := of_decide_eq_true zs_
        have q283 : (ji3) < (l0.length : Int) := of_decide_eq_true zs_
        obtain ⟨ad283, A283_4, c283_4, e283, hx283_0, hx283_1, hx283_2, hx283_3, hx283_4, hl283_4, hi283_4⟩ := at_T32 HR0.out (ji3) p283 q283
        have hw283_4 := hx283_4
        have hw283_3 := hx283_3
        have hw283_2 := hx283_2
        have hw283_1 := hx283_1
        have hw283_0 := hx283_0
        cases e283
        replace hx283_0 := (HB.out.cell (World.block_lt_of_cell? w _ hx283_0)).trans hx283_0
        replace hx283_1 := (HB.out.cell (World.block_lt_of_cell? w _ hx283_1)).trans hx283_1
        replace hx283_2 := (HB.out.cell (World.block_lt_of_cell? w _ hx283_2)).trans hx283_2
        replace hx283_3 := (HB.out.cell (World.block_lt_of_cell? w _ hx283_3)).trans hx283_3
        replace hx283_4 := (HB.out.cell (World.block_lt_of_cell? w _ hx283_4)).trans hx283_4
        have HR283_4 := Aside0.mk hi283_4
        have HC283_4 := Aside0.mk hl283_4
        clear hi283_4 hl283_4
        replace p283 := eq_true p283
        replace q283 := eq_true q283
        have p284 : 0 ≤ (x3_1 : Int) := of_decide_eq_true zs_
        have q284 : x3_1 < (l0.length : Int) := of_decide_eq_true zs_
        obtain ⟨ad284, A284_4, c284_4, e284, hx284_0, hx284_1, hx284_2, hx284_3, hx284_4, hl284_4, hi284_4⟩ := at_T32 HR0.out x3_1 p284 q284
        have hw284_4 := hx284_4
        have hw284_3 := hx284_3
        have hw284_2 := hx284_2
        have hw284_1 := hx284_1
        have hw284_0 := hx284_0
        obtain rfl : ad283 = ad284 := (by injection e284)
        replace hx284_0 := (HB.out.cell (World.block_lt_of_cell? w _ hx284_0)).trans hx284_0
        replace hx284_1 := (HB.out.cell (World.block_lt_of_cell? w _ hx284_1)).trans hx284_1
        replace hx284_2 := (HB.out.cell (World.block_lt_of_cell? w _ hx284_2)).trans hx284_2
        replace hx284_3 := (HB.out.cell (World.block_lt_of_cell? w _ hx284_3)).trans hx284_3
        replace hx284_4 := (HB.out.cell (World.block_lt_of_cell? w _ hx284_4)).trans hx284_4
        have HR284_4 := Aside0.mk hi284_4
        have HC284_4 := Aside0.mk hl284_4
        clear hi284_4 hl284_4
        replace p284 := eq_true p284
        replace q284 := eq_true q284
        refine start_ (n := 13) (S := fun w' => w'.cell? (ad283.add (((ji3)).toNat * 5)) = some (.int .u64 ((rd_T32 l0 (ji3)).f0.f0.f0)) ∧ w'.cell? ⟨(ad283.add (((ji3)).toNat * 5)).block, (ad283.add (((ji3)).toNat * 5)).off + 1, none⟩ = some (.int .i64 ((rd_T32 l0 (ji3)).f0.f0.f1)) ∧ w'.cell? ⟨(ad283.add (((ji3)).toNat * 5)).block, (ad283.add (((ji3)).toNat * 5)).off + 2, none⟩ = some (.int .u64 ((rd_T32 l0 (ji3)).f0.f1)) ∧ w'.cell? ⟨(ad283.add (((ji3)).toNat * 5)).block, (ad283.add (((ji3)).toNat * 5)).off + 3, none⟩ = some (.int .i64 ((rd_T32 l0 (ji3)).f0.f2)) ∧ w'.cell? ⟨(ad283.add (((ji3)).toNat * 5)).block, (ad283.add (((ji3)).toNat * 5)).off + 4, none⟩ = some (.slice A283_4 ((rd_T32 l0 (ji3)).f1).length c283_4) ∧ w'.cell? (ad283.add ((x3_1).toNat * 5)) = some (.int .u64 ((rd_T32 l0 x3_1).f0.f0.f0)) ∧ w'.cell? ⟨(ad283.add ((x3_1).toNat * 5)).block, (ad283.add ((x3_1).toNat * 5)).off + 1, none⟩ = some (.int .i64 ((rd_T32 l0 x3_1).f0.f0.f1)) ∧ w'.cell? ⟨(ad283.add ((x3_1).toNat * 5)).block, (ad283.add ((x3_1).toNat * 5)).off + 2, none⟩ = some (.int .u64 ((rd_T32 l0 x3_1).f0.f1)) ∧ w'.cell? ⟨(ad283.add ((x3_1).toNat * 5)).block, (ad283.add ((x3_1).toNat * 5)).off + 3, none⟩ = some (.int .i64 ((rd_T32 l0 x3_1).f0.f2)) ∧ w'.cell? ⟨(ad283.add ((x3_1).toNat * 5)).block, (ad283.add ((x3_1).toNat * 5)).off + 4, none⟩ = some (.slice A284_4 ((rd_T32 l0 x3_1).f1).length c284_4)) (ds := []) #[F_,F_,F_,F_,F_,F_,F_,F_,F_,F_,F_,F_,F_] (by kernel_rfl) rfl rfl ⟨((HB.out.cell (World.block_lt_of_cell? w _ hw283_0)).trans hw283_0), ((HB.out.cell (World.block_lt_of_cell? w _ hw283_1)).trans hw283_1), ((HB.out.cell (World.block_lt_of_cell? w _ hw283_2)).trans hw283_2), ((HB.out.cell (World.block_lt_of_cell? w _ hw283_3)).trans hw283_3), ((HB.out.cell (World.block_lt_of_cell? w _ hw283_4)).trans hw283_4), ((HB.out.cell (World.block_lt_of_cell? w _ hw284_0)).trans hw284_0), ((HB.out.cell (World.block_lt_of_cell? w _ hw284_1)).trans hw284_1), ((HB.out.cell (World.block_lt_of_cell? w _ hw284_2)).trans hw284_2), ((HB.out.cell (World.block_lt_of_cell? w _ hw284_3)).trans hw284_3), ((HB.out.cell (World.block_lt_of_cell? w _ hw284_4)).trans hw284_4)⟩ (fun hHeld => ?_); refine with_tabW folkmootref15_Rising.tab4 folkmootref15_Rising.bits4 (fun HT_ HW_ => ?_)
        generalize wr.drew = w11 at HB HR283_4 HR284_4 hx283_0 hx283_1 hx283_2 hx283_3 hx283_4 hx284_0 hx284_1 hx284_2 hx284_3 hx284_4 hHeld ⊢
        refine pure_ (i := 0) (N := some 10) (v := ?_) (a' := ?_) #[T_,F_,F_,F_,F_,F_,F_,F_,F_,F_,F_,F_,F_] rfl rfl (any_of HT_.out (by kernel_rfl)) (fun _ _ _ h => h) (Or.inl ⟨by rfl, ?_⟩) ?_ ?_
        rotate_left
        ·
         intro w'; go_simp; with_reducible rfl
        rotate_left
        ·
         exact zp_
        refine pure_ (i := 1) (N := some 11) (v := ?_) (a' := ?_) #[T_,T_,F_,F_,F_,F_,F_,F_,F_,F_,F_,F_,F_] rfl rfl (any_of HT_.out (by kernel_rfl)) (fun _ _ _ h => h) (Or.inl ⟨by rfl, ?_⟩) ?_ ?_
        rotate_left
        ·
         intro w'; go_simp; with_reducible rfl
        rotate_left
        ·
         exact zp_
        refine pure_ (i := 2) (N := some 12) (v := ?_) (a' := ?_) #[T_,T_,T_,F_,F_,F_,F_,F_,F_,F_,F_,F_,F_] rfl rfl (any_of HT_.out (by kernel_rfl)) (fun _ _ _ h => h) (Or.inl ⟨by rfl, ?_⟩) ?_ ?_
        rotate_left
        ·
         intro w'; go_simp; with_reducible rfl
        rotate_left
        ·
         exact zp_
        refine pure_ (i := 3) (N := some 13) (v := ?_) (a' := ?_) #[T_,T_,T_,T_,F_,F_,F_,F_,F_,F_,F_,F_,F_] rfl rfl (any_of HT_.out (by kernel_rfl)) (fun _ _ _ h => h) (Or.inl ⟨by rfl, ?_⟩) ?_ ?_
        rotate_left
        ·
         intro w'; go_simp; with_reducible rfl
        rotate_left
        ·
         exact zp_
        refine pure_ (i := 4) (N := some 14) (v := ?_) (a' := ?_) #[T_,T_,T_,T_,T_,F_,F_,F_,F_,F_,F_,F_,F_] rfl rfl (any_of HT_.out (by kernel_rfl)) (fun _ _ _ h => h) (Or.inl ⟨by rfl, ?_⟩) ?_ ?_
        rotate_left
        ·
         intro w'; go_simp; with_reducible rfl
        rotate_left
        ·
         exact zp_
        refine pure_ (i := 6) (N := some 16) (v := ?_) (a' := ?_) #[T_,T_,T_,T_,T_,F_,T_,F_,F_,F_,F_,F_,F_] rfl rfl (any_of HT_.out (by kernel_rfl)) (fun _ _ _ h => h) (Or.inl ⟨by rfl, ?_⟩) ?_ ?_
        rotate_left
        ·
         intro w'; go_simp; with_reducible rfl
        rotate_left
        ·
         exact zp_
        refine pure_ (i := 7) (N := some 17) (v := ?_) (a' := ?_) #[T_,T_,T_,T_,T_,F_,T_,T_,F_,F_,F_,F_,F_] rfl rfl (any_of HT_.out (by kernel_rfl)) (fun _ _ _ h => h) (Or.inl ⟨by rfl, ?_⟩) ?_ ?_
        rotate_left
        ·
         intro w'; go_simp; with_reducible rfl
        rotate_left
        ·
         exact zp_
        refine pure_ (i := 8) (N := some 18) (v := ?_) (a' := ?_) #[T_,T_,T_,T_,T_,F_,T_,T_,T_,F_,F_,F_,F_] rfl rfl (any_of HT_.out (by kernel_rfl)) (fun _ _ _ h => h) (Or.inl ⟨by rfl, ?_⟩) ?_ ?_
        rotate_left
        ·
         intro w'; go_simp; with_reducible rfl
        rotate_left
        ·
         exact zp_
        refine pure_ (i := 9) (N := some 19) (v := ?_) (a' := ?_) #[T_,T_,T_,T_,T_,F_,T_,T_,T_,T_,F_,F_,F_] rfl rfl (any_of HT_.out (by kernel_rfl)) (fun _ _ _ h => h) (Or.inl ⟨by rfl, ?_⟩) ?_ ?_
        rotate_left
        ·
         intro w'; go_simp; with_reducible rfl
        rotate_left
        ·
         exact zp_
        refine take_ (i := 5) (N := some 15) (v := ?_) (a' := ?_) #[T_,T_,T_,T_,T_,T_,T_,T_,T_,T_,F_,F_,F_] rfl rfl (take_ofW HT_.out HW_.out (by kernel_rfl)) (fun _ _ _ h => h) (Or.inl ⟨by rfl, ?_⟩) hHeld ?_ ?_
        rotate_left
        ·
         rintro w' ⟨s0, s1, s2, s3, s4, s5, s6, s7, s8, s9⟩
         go_simp
         with_reducible rfl
        rotate_left
        ·
         exact zp_
        refine take_ (i := 10) (N := some 20) (v := ?_) (a' := ?_) #[T_,T_,T_,T_,T_,T_,T_,T_,T_,T_,T_,F_,F_] rfl rfl (take_ofW HT_.out HW_.out (by kernel_rfl)) (fun _ _ _ h => h) (Or.inl ⟨by rfl, ?_⟩) hHeld ?_ ?_
        rotate_left
        ·
         rintro w' ⟨s0, s1, s2, s3, s4, s5, s6, s7, s8, s9⟩
         go_simp
         with_reducible rfl
        rotate_left
        ·
         exact zp_
        refine one_ (i := 11) (N := some 21) #[T_,T_,T_,T_,T_,T_,T_,T_,T_,T_,T_,T_,F_] rfl rfl (one_of HT_.out (by kernel_rfl)) (by decide) (fun K hK => ?_)
        refine goes_ Try.func43 (by kernel_rfl) rfl #[.agg #[.int .u64 ((rd_T32 l0 (ji3)).f0.f0.f0), .int .i64 ((rd_T32 l0 (ji3)).f0.f0.f1), .int .u64 ((rd_T32 l0 (ji3)).f0.f1), .int .i64 ((rd_T32 l0 (ji3)).f0.f2)], .agg #[.int .u64 ((rd_T32 l0 x3_1).f0.f0.f0), .int .i64 ((rd_T32 l0 x3_1).f0.f0.f1), .int .u64 ((rd_T32 l0 x3_1).f0.f1), .int .i64 ((rd_T32 l0 x3_1).f0.f2)]] (by rfl) rfl rfl (by (try simp only [List.map_toArray, List.map_cons, List.map_nil]); first | done | (simp only [hji3]; rfl) | rfl | (simp only [List.length_drop, List.length_take]; rfl)) ?_
        with_reducible refine (folkmootref05_Less.calls k1 ((rd_T32 l0 (ji3)).f0.f0.f0) ((rd_T32 l0 (ji3)).f0.f0.f1) ((rd_T32 l0 (ji3)).f0.f1) ((rd_T32 l0 (ji3)).f0.f2) ((rd_T32 l0 x3_1).f0.f0.f0) ((rd_T32 l0 x3_1).f0.f0.f1) ((rd_T32 l0 x3_1).f0.f1) ((rd_T32 l0 x3_1).f0.f2) false _ A7.out).mono ?_
        rintro e w12 ⟨rfl, hb⟩
        refine ⟨_, rfl, ?_⟩
        have n0_ := Aside0.mk (below_step zb_ hb)
        clear HB
        have HB := n0_
        clear n0_
        (try clear hb)
        (try clear hb2)
        (try clear hk)
        (try clear hi)
        refine hK.out _ _ ⟨((HB.out.cell (World.block_lt_of_cell? w _ hw283_0)).trans hw283_0), ((HB.out.cell (World.block_lt_of_cell? w _ hw283_1)).trans hw283_1), ((HB.out.cell (World.block_lt_of_cell? w _ hw283_2)).trans hw283_2), ((HB.out.cell (World.block_lt_of_cell? w _ hw283_3)).trans hw283_3), ((HB.out.cell (World.block_lt_of_cell? w _ hw283_4)).trans hw283_4), ((HB.out.cell (World.block_lt_of_cell? w _ hw284_0)).trans hw284_0), ((HB.out.cell (World.block_lt_of_cell? w _ hw284_1)).trans hw284_1), ((HB.out.cell (World.block_lt_of_cell? w _ hw284_2)).trans hw284_2), ((HB.out.cell (World.block_lt_of_cell? w _ hw284_3)).trans hw284_3), ((HB.out.cell (World.block_lt_of_cell? w _ hw284_4)).trans hw284_4)⟩ (fun hHeld => ?_)
        clear hK K
        refine norm_ (a' := ?_) ?_ ?_
        rotate_left
        ·
         show Act.put _ (some 21) _ = _
         simp only [Act.put, List.setIfInBounds_toArray, List.set_cons_zero, List.set_cons_succ, i64_w, i32_w]
         rfl
        refine pure_ (i := 12) (N := some 22) (v := ?_) (a' := ?_) #[T_,T_,T_,T_,T_,T_,T_,T_,T_,T_,T_,T_,T_] rfl rfl (any_of HT_.out (by kernel_rfl)) (fun _ _ _ h => h) (Or.inl ⟨by rfl, ?_⟩) ?_ ?_
        rotate_left
        ·
         intro w'; go_simp; with_reducible rfl
        rotate_left
        ·
         exact zp_
        refine done_ (done_of HT_.out (by kernel_rfl)) ?_
        (try clear hHeld); (try clear HS0_)
        try go_wp2
        go_ret
        exact ⟨by first | rfl | (simp [errW_none, errW_some] <;> rfl) | (simp only [← hji3]; first | rfl | (simp [errW_none, errW_some] <;> rfl)) | (simp [*, errW_none, errW_some] <;> rfl), by repeat (first | (with_reducible first | exact HB.out | apply below_alloc | apply pw_below_drewN | apply below_drew1) | exact HB.out)⟩
      ·
       rw [if_neg c6] at H
       exact absurd H (by simp)
     ·
      rw [if_neg c5] at H
      exact absurd H (by simp)
    ·
     rw [if_neg c4] at H
     exact absurd H (by simp)
   ·
    rw [if_neg c2] at H
    have c2b0 : decide (x3_1 < (l0.length : Int)) = false := decide_eq_false c2
    clear c2
    obtain rfl := Option.some.inj H
    go_wp2
    go_ret
    exact ⟨by first | rfl | (simp [errW_none, errW_some] <;> rfl) | (simp [*, errW_none, errW_some] <;> rfl), by repeat (first | (with_reducible first | exact HB.out | apply below_alloc | apply pw_below_drewN | apply below_drew1) | exact HB.out)⟩
end Go.Proofs.Ytioooiflpabngaa.PAll
end
section
namespace Go.Proofs.Ytioooiflpabngaa.PAll
open Go.RowKit Go.Proofs.YtioooiflpabngaaW.PrintWords Go.Proofs.YtioooiflpabngaaW.PrintLast Go.Proofs.YtioooiflpabngaaW.PrintMore
attribute [local go_sem] max2_int min2_int max_two min_two max_three min_three max_four min_four   -- for this text's walks alone
set_option linter.unusedVariables false
set_option linter.unusedSimpArgs false
def folkmootref15_Form.f (a0_0 : Int) (a0_1 : Int) (a0_2 : Int) (a0_3 : Int) (l0_4 : List Int) : Option (Bool) := (folkmootref05_Form.f a0_0 a0_1 a0_2 a0_3).bind fun t503 => (if t503 = true then (some (decide ((l0_4.length : Int) ≤ 64))) else (some false))
set_option maxHeartbeats 8000000 in
set_option maxRecDepth 100000 in
theorem folkmootref15_Form.calls (a0_0 : Int) (a0_1 : Int) (a0_2 : Int) (a0_3 : Int) (A0_4 : Option Addr) (c0_4 : Nat) (l0_4 : List Int) (r : Bool) (w : World) (hr0_4 : Kd.C (Kd.int .u8) w A0_4 l0_4.length l0_4) (hc0_4 : l0_4.length ≤ c0_4) (h : folkmootref15_Form.f a0_0 a0_1 a0_2 a0_3 l0_4 = some r) :
  Calls Try.prog 44 #[.agg #[.int .u64 a0_0, .int .i64 a0_1, .int .u64 a0_2, .int .i64 a0_3, .slice A0_4 l0_4.length c0_4]] w fun e w' => e = .returned (.bool r) ∧ Below w.heap.size w w' := by
 have hu32 := Try.underlying32
 have hu27 := Try.underlying27
 have HR0_4 := Aside0.mk hr0_4
 have HC0_4 := Aside0.mk hc0_4
 clear hr0_4 hc0_4
 have HB := Aside0.mk (Below.refl w.heap.size w)
 have H : ((folkmootref05_Form.f a0_0 a0_1 a0_2 a0_3).bind fun t503 => (if t503 = true then (some (decide ((l0_4.length : Int) ≤ 64))) else (some false))) = some r := h
 clear h
 replace H := Option.bind_eq_some_iff.mp H
 obtain ⟨t503, A20, H⟩ := H
 replace H : (if t503 = true then (some (decide ((l0_4.length : Int) ≤ 64))) else (some false)) = some r := H
 have A2 := Aside0.mk A20
 clear A20
 by_cases c3 : t503 = true
 ·
  subst c3
  have H1 : (some (decide ((l0_4.length : Int) ≤ 64))) = some r := by rw [if_pos rfl] at H; exact H
  clear H
  have H := H1
  clear H1
  obtain rfl := Option.some.inj H
  go_enter Try.func44, Try.ntmps44
  go_wp2_with (first | ((with_reducible refine gate_dst (N := 1) rfl ?_); (try (refine gate_guard (by rfl) ?_; dsimp only)); refine box_event ?hg (N := 1) ?hd (cs := #[.int .u64 a0_0, .int .i64 a0_1, .int .u64 a0_2, .int .i64 a0_3, .slice A0_4 l0_4.length c0_4]) (t := 32) ?hr ?_; (case hd => rfl); (case hg => rfl); (case hr => first | (go_simp; done) | (go_simp; rfl)); intro gb502 hg w4 hbox hb; have n0_ := Aside0.mk (below_step zb_ hb); have n1_ := Aside0.mk (hbox); have n2_ := Aside0.mk ((by rw [hg]; exact (below_size zb_) : w.heap.size ≤ gb502)); have n3_ := Aside0.mk ((by rw [hg]; exact (below_size zb_) : w.heap.size ≤ gb502)); clear HB; have HB := n0_; have BK502 := n1_; have GW502 := n2_; have GE502 := n3_; clear n0_ n1_ n2_ n3_; clear hb hbox hg; have hcz5_0 : w4.cell? ⟨gb502, 0, none⟩ = some (.int .u64 a0_0) := (blk_cell BK502.out 0).trans rfl; have hcz5_1 : w4.cell? ⟨gb502, 1, none⟩ = some (.int .i64 a0_1) := (blk_cell BK502.out 1).trans rfl; have hcz5_2 : w4.cell? ⟨gb502, 2, none⟩ = some (.int .u64 a0_2) := (blk_cell BK502.out 2).trans rfl; have hcz5_3 : w4.cell? ⟨gb502, 3, none⟩ = some (.int .i64 a0_3) := (blk_cell BK502.out 3).trans rfl; have hcz5_4 : w4.cell? ⟨gb502, 4, none⟩ = some (.slice A0_4 l0_4.length c0_4) := (blk_cell BK502.out 4).trans rfl; have hfz5_0 := blk_frozen BK502.out 0; have hfz5_1 := blk_frozen BK502.out 1; have hfz5_2 := blk_frozen BK502.out 2; have hfz5_3 := blk_frozen BK502.out 3; have hfz5_4 := blk_frozen BK502.out 4) | ((with_reducible refine gate_callee (f := 41) rfl ?_); refine goesL_ (some 5) rfl rfl Try.func41 (by kernel_rfl) rfl #[.agg #[.int .u64 a0_0, .int .i64 a0_1, .int .u64 a0_2, .int .i64 a0_3]] rfl za_ ?_; (with_reducible refine (folkmootref05_Form.calls a0_0 a0_1 a0_2 a0_3 true _ A2.out).mono ?_); rintro e w6 ⟨rfl, hb⟩; refine ⟨_, rfl, ?_⟩; have n0_ := zk_ BK502 hb; have n1_ := Aside0.mk (below_step zb_ hb); clear BK502; clear HB; have BK502 := n0_; have HB := n1_; clear n0_ n1_; (try clear hb); (try clear hb2); (try clear hk); (try clear hi); have hcz7_0 : w6.cell? ⟨gb502, 0, none⟩ = some (.int .u64 a0_0) := (blk_cell BK502.out 0).trans rfl; have hcz7_1 : w6.cell? ⟨gb502, 1, none⟩ = some (.int .i64 a0_1) := (blk_cell BK502.out 1).trans rfl; have hcz7_2 : w6.cell? ⟨gb502, 2, none⟩ = some (.int .u64 a0_2) := (blk_cell BK502.out 2).trans rfl; have hcz7_3 : w6.cell? ⟨gb502, 3, none⟩ = some (.int .i64 a0_3) := (blk_cell BK502.out 3).trans rfl; have hcz7_4 : w6.cell? ⟨gb502, 4, none⟩ = some (.slice A0_4 l0_4.length c0_4) := (blk_cell BK502.out 4).trans rfl; have hfz7_0 := blk_frozen BK502.out 0; have hfz7_1 := blk_frozen BK502.out 1; have hfz7_2 := blk_frozen BK502.out 2; have hfz7_3 := blk_frozen BK502.out 3; have hfz7_4 := blk_frozen BK502.out 4))
  go_ret
  exact ⟨by first | rfl | (simp [errW_none, errW_some] <;> rfl) | (simp [*, errW_none, errW_some] <;> rfl), by repeat (first | (with_reducible first | exact HB.out | apply below_alloc | apply pw_below_drewN | apply below_drew1 | refine below_set ?_ GE502.out) | exact HB.out)⟩
 ·
  replace c3 := Bool.eq_false_iff.mpr c3
  subst c3
  have H1 : (some false) = some r := by rw [if_neg (show ¬ (false = true) by decide)] at H; exact H
  clear H
  have H := H1
  clear H1
  obtain rfl := Option.some.inj H
  go_enter Try.func44, Try.ntmps44
  go_wp2_with (first | ((with_reducible refine gate_dst (N := 1) rfl ?_); (try (refine gate_guard (by rfl) ?_; dsimp only)); refine box_event ?hg (N := 1) ?hd (cs := #[.int .u64 a0_0, .int .i64 a0_1, .int .u64 a0_2, .int .i64 a0_3, .slice A0_4 l0_4.length c0_4]) (t := 32) ?hr ?_; (case hd => rfl); (case hg => rfl); (case hr => first | (go_simp; done) | (go_simp; rfl)); intro gb502 hg w8 hbox hb; have n0_ := Aside0.mk (below_step zb_ hb); have n1_ := Aside0.mk (hbox); have n2_ := Aside0.mk ((by rw [hg]; exact (below_size zb_) : w.heap.size ≤ gb502)); have n3_ := Aside0.mk ((by rw [hg]; exact (below_size zb_) : w.heap.size ≤ gb502)); clear HB; have HB := n0_; have BK502 := n1_; have GW502 := n2_; have GE502 := n3_; clear n0_ n1_ n2_ n3_; clear hb hbox hg; have hcz9_0 : w8.cell? ⟨gb502, 0, none⟩ = some (.int .u64 a0_0) := (blk_cell BK502.out 0).trans rfl; have hcz9_1 : w8.cell? ⟨gb502, 1, none⟩ = some (.int .i64 a0_1) := (blk_cell BK502.out 1).trans rfl; have hcz9_2 : w8.cell? ⟨gb502, 2, none⟩ = some (.int .u64 a0_2) := (blk_cell BK502.out 2).trans rfl; have hcz9_3 : w8.cell? ⟨gb502, 3, none⟩ = some (.int .i64 a0_3) := (blk_cell BK502.out 3).trans rfl; have hcz9_4 : w8.cell? ⟨gb502, 4, none⟩ = some (.slice A0_4 l0_4.length c0_4) := (blk_cell BK502.out 4).trans rfl; have hfz9_0 := blk_frozen BK502.out 0; have hfz9_1 := blk_frozen BK502.out 1; have hfz9_2 := blk_frozen BK502.out 2; have hfz9_3 := blk_frozen BK502.out 3; have hfz9_4 := blk_frozen BK502.out 4) | ((with_reducible refine gate_callee (f := 41) rfl ?_); refine goesL_ (some 5) rfl rfl Try.func41 (by kernel_rfl) rfl #[.agg #[.int .u64 a0_0, .int .i64 a0_1, .int .u64 a0_2, .int .i64 a0_3]] rfl za_ ?_; (with_reducible refine (folkmootref05_Form.calls a0_0 a0_1 a0_2 a0_3 false _ A2.out).mono ?_); rintro e w10 ⟨rfl, hb⟩; refine ⟨_, rfl, ?_⟩; have n0_ := zk_ BK502 hb; have n1_ := Aside0.mk (below_step zb_ hb); clear BK502; clear HB; have BK502 := n0_; have HB := n1_; clear n0_ n1_; (try clear hb); (try clear hb2); (try clear hk); (try clear hi)))
  go_ret
  exact ⟨by first | rfl | (simp [errW_none, errW_some] <;> rfl) | (simp [*, errW_none, errW_some] <;> rfl), by repeat (first | (with_reducible first | exact HB.out | apply below_alloc | apply pw_below_drewN | apply below_drew1 | refine below_set ?_ GE502.out) | exact HB.out)⟩
end Go.Proofs.Ytioooiflpabngaa.PAll
end
section
namespace Go.Proofs.Ytioooiflpabngaa.PAll
open Go.RowKit Go.Proofs.YtioooiflpabngaaW.PrintWords Go.Proofs.YtioooiflpabngaaW.PrintLast Go.Proofs.YtioooiflpabngaaW.PrintMore
attribute [local go_sem] max2_int min2_int max_two min_two max_three min_three max_four min_four   -- for this text's walks alone
set_option linter.unusedVariables false
set_option linter.unusedSimpArgs false
mutual
def folkmootref15_Right.l0 : Nat → Int → List (S32) → List (S27) → Int → Int → Int → Option (Bool)
 | 0, _, _, _, _, _, _ => none
 | k + 1, x3, x505000, x505001, x505002, x505003, x505004 => if x3 < (x505000.length : Int) then (if 0 ≤ x3 then ((folkmootref15_Form.f ((rd_T32 x505000 x3).f0.f0.f0) ((rd_T32 x505000 x3).f0.f0.f1) ((rd_T32 x505000 x3).f0.f1) ((rd_T32 x505000 x3).f0.f2) ((rd_T32 x505000 x3).f1)).bind fun t506 => (if t506 = true then (folkmootref15_Right.l0 k (wrap64 (x3 + 1)) x505000 x505001 x505002 x505003 x505004) else (some false))) else (none)) else (folkmootref15_Right.l1 k 0 x505000 x505001 x505002 x505003 x505004)
def folkmootref15_Right.l1 : Nat → Int → List (S32) → List (S27) → Int → Int → Int → Option (Bool)
 | 0, _, _, _, _, _, _ => none
 | k + 1, x4, x505000, x505001, x505002, x505003, x505004 => if x4 < (x505001.length : Int) then (if 0 ≤ x4 then ((folkmootref05_Form.f ((rd_T27 x505001 x4).f0.f0) ((rd_T27 x505001 x4).f0.f1) ((rd_T27 x505001 x4).f1) ((rd_T27 x505001 x4).f2)).bind fun t510 => (if t510 = true then (if x4 ≤ (x505001.length : Int) then ((folkmootref05_In.f k (x505001.take (x4 : Int).toNat) ((rd_T27 x505001 x4).f0.f0) ((rd_T27 x505001 x4).f0.f1) ((rd_T27 x505001 x4).f1) ((rd_T27 x505001 x4).f2)).bind fun t516 => (if t516 = true then (some false) else (folkmootref15_Right.l1 k (wrap64 (x4 + 1)) x505000 x505001 x505002 x505003 x505004))) else (none)) else (some false))) else (none)) else ((folkmootref15_Rising.f k x505000).bind fun t507 => (if t507 = true then (if x505002 ≥ 1 then (if x505002 ≤ (wrap64 ((x505001.length : Int) + 1)) then ((folkmootref04_Form.f x505003 x505004).bind fun t508 => (some t508)) else (some false)) else (some false)) else (some false)))
end
def folkmootref15_Right.f (k : Nat) (l0_0 : List (S32)) (l0_1 : List (S27)) (a0_2 : Int) (a0_3 : Int) (a0_4 : Int) : Option (Bool) := folkmootref15_Right.l0 k 0 l0_0 l0_1 a0_2 a0_3 a0_4
def folkmootref15_Right.T9 : Bool × List (List Nat × List Nat) := (true, [([], []), ([0], [0]), ([], []), ([1, 2], [1, 2]), ([3], [3]), ([4], [4]), ([5], [5]), ([6, 5], [6]), ([7], [7]), ([8, 7], [7, 8]), ([7], [7]), ([9, 10, 7], [7, 9, 10]), ([7], [7]), ([12, 7], [7, 12]), ([7], [7]), ([13, 14, 7], [7, 13, 14]), ([15, 7], [7, 15]), ([11, 16, 7, 7], [7, 11, 16]), ([7, 17], [7, 17])])
def folkmootref15_Right.B9 : List Nat := [0, 1, 0, 7, 15, 31, 63, 127, 255, 511, 255, 2047, 255, 4351, 255, 28927, 61695, 131071, 262143]
theorem folkmootref15_Right.tab9 : rtab .any (opsOf Try.f45 9) = folkmootref15_Right.T9 := by kernel_rfl
theorem folkmootref15_Right.bits9 : waitsOk folkmootref15_Right.T9.2 folkmootref15_Right.B9 = true := by kernel_rfl
set_option maxHeartbeats 8000000 in
set_option maxRecDepth 100000 in
theorem folkmootref15_Right.calls (k : Nat) (A0_0 : Option Addr) (c0_0 : Nat) (l0_0 : List (S32)) (A0_1 : Option Addr) (c0_1 : Nat) (l0_1 : List (S27)) (a0_2 : Int) (a0_3 : Int) (a0_4 : Int) (r : Bool) (w : World) (hr0_0 : Kd.C k32 w A0_0 l0_0.length l0_0) (hc0_0 : l0_0.length ≤ c0_0) (hr0_1 : Kd.C k27 w A0_1 l0_1.length l0_1) (hc0_1 : l0_1.length ≤ c0_1) (h : folkmootref15_Right.f k l0_0 l0_1 a0_2 a0_3 a0_4 = some r) :
  Calls Try.prog 45 #[.agg #[.slice A0_0 l0_0.length c0_0, .slice A0_1 l0_1.length c0_1, .int .i64 a0_2, .int .u64 a0_3, .int .i64 a0_4]] w fun e w' => e = .returned (.bool r) ∧ Below w.heap.size w w' := by
 have hu53 := Try.underlying53
 have hu32 := Try.underlying32
 have hu27 := Try.underlying27
 have hu25 := Try.underlying25
 have HR0_0 := Aside0.mk hr0_0
 have HC0_0 := Aside0.mk hc0_0
 clear hr0_0 hc0_0
 have HR0_1 := Aside0.mk hr0_1
 have HC0_1 := Aside0.mk hc0_1
 clear hr0_1 hc0_1
 have HB := Aside0.mk (Below.refl w.heap.size w)
 have H : (folkmootref15_Right.l0 k 0 l0_0 l0_1 a0_2 a0_3 a0_4) = some r := h
 clear h
 have H' := Aside0.mk H
 clear H
 go_enter Try.func45, Try.ntmps45
 go_wp2_with (first | ((with_reducible refine gate_dst (N := 1) rfl ?_); (try (refine gate_guard (by rfl) ?_; dsimp only)); refine box_event ?hg (N := 1) ?hd (cs := #[.slice A0_0 l0_0.length c0_0, .slice A0_1 l0_1.length c0_1, .int .i64 a0_2, .int .u64 a0_3, .int .i64 a0_4]) (t := 53) ?hr ?_; (case hd => rfl); (case hg => rfl); (case hr => first | (go_simp; done) | (go_simp; rfl)); intro gb504 hg w2 hbox hb; have n0_ := Aside0.mk (below_step zb_ hb); have n1_ := Aside0.mk (hbox); have n2_ := Aside0.mk ((by rw [hg]; exact (below_size zb_) : w.heap.size ≤ gb504)); have n3_ := Aside0.mk ((by rw [hg]; exact (below_size zb_) : w.heap.size ≤ gb504)); clear HB; have HB := n0_; have BK504 := n1_; have GW504 := n2_; have GE504 := n3_; clear n0_ n1_ n2_ n3_; clear hb hbox hg))
 go_loopg [3] k (fun kq v3 w' => ∃ (x3_1 : Int), v3 = .int .i64 x3_1 ∧ Aside0 (folkmootref15_Right.l0 kq x3_1 l0_0 l0_1 a0_2 a0_3 a0_4 = some r) ∧ Aside0 (kq ≤ k) ∧ Aside0 (w'.heap[gb504]? = some (.cells #[(.slice A0_0 l0_0.length c0_0), (.slice A0_1 l0_1.length c0_1), .int .i64 a0_2, .int .u64 a0_3, .int .i64 a0_4] 53 (0, 0))) ∧ Aside0 (Below w.heap.size w w'))
 case atStart => exact ⟨(0), (by first | rfl | (simp; done) | (simp [*]; done)), H', ⟨Nat.le_refl _⟩, ⟨by (with_reducible repeat (first | refine blk_drewN ?_ _ | refine blk_drew ?_ | refine blk_alloc ?_ _)); exact BK504.out⟩, ⟨by repeat (first | (with_reducible first | exact HB.out | apply below_alloc | apply pw_below_drewN | apply below_drew1 | refine below_set ?_ GE504.out) | exact HB.out)⟩⟩
 case round =>
  clear H'
  try clear p2
  obtain ⟨x3_1, rfl, HA, HK1, BK504, HB⟩ := hrel
  cases gk with
  | zero => exact absurd HA.out (by simp [folkmootref15_Right.l0])
  | succ k1 =>
   have H := HA.out
   clear HA
   simp only [folkmootref15_Right.l0] at H
   by_cases c3 : x3_1 < (l0_0.length : Int)
   ·
    rw [if_pos c3] at H
    have c3b0 : decide (x3_1 < (l0_0.length : Int)) = true := decide_eq_true c3
    clear c3
    by_cases c4 : 0 ≤ x3_1
    ·
     rw [if_pos c4] at H
     have c4b0 : decide (0 ≤ x3_1) = true := decide_eq_true c4
     clear c4
     replace H := Option.bind_eq_some_iff.mp H
     obtain ⟨t506, A50, H⟩ := H
     replace H : (if t506 = true then (folkmootref15_Right.l0 k1 (wrap64 (x3_1 + 1)) l0_0 l0_1 a0_2 a0_3 a0_4) else (some false)) = some r := H
     have A5 := Aside0.mk A50
     clear A50
     by_cases c6 : t506 = true
     ·
      subst c6
      have H1 : (folkmootref15_Right.l0 k1 (wrap64 (x3_1 + 1)) l0_0 l0_1 a0_2 a0_3 a0_4) = some r := by rw [if_pos rfl] at H; exact H
      clear H
      have H := H1
      clear H1
      have H' := Aside0.mk H
      clear H
      have hcz7_0 : wr.cell? ⟨gb504, 0, none⟩ = some (.slice A0_0 l0_0.length c0_0) := (blk_cell BK504.out 0).trans rfl
      have hcz7_1 : wr.cell? ⟨gb504, 1, none⟩ = some (.slice A0_1 l0_1.length c0_1) := (blk_cell BK504.out 1).trans rfl
      have hcz7_2 : wr.cell? ⟨gb504, 2, none⟩ = some (.int .i64 a0_2) := (blk_cell BK504.out 2).trans rfl
      have hcz7_3 : wr.cell? ⟨gb504, 3, none⟩ = some (.int .u64 a0_3) := (blk_cell BK504.out 3).trans rfl
      have hcz7_4 : wr.cell? ⟨gb504, 4, none⟩ = some (.int .i64 a0_4) := (blk_cell BK504.out 4).trans rfl
      have hfz7_0 := blk_frozen BK504.out 0
      have hfz7_1 := blk_frozen BK504.out 1
      have hfz7_2 := blk_frozen BK504.out 2
      have hfz7_3 := blk_frozen BK504.out 3
      have hfz7_4 := blk_frozen BK504.out 4
      have p505 : 0 ≤ (x3_1 : Int) := of_decide_eq_true zs_
      have q505 : x3_1 < (l0_0.length : Int) := of_decide_eq_true zs_
      obtain ⟨ad505, A505_4, c505_4, e505, hx505_0, hx505_1, hx505_2, hx505_3, hx505_4, hl505_4, hi505_4⟩ := at_T32 HR0_0.out x3_1 p505 q505
      cases e505
      replace hx505_0 := (HB.out.cell (World.block_lt_of_cell? w _ hx505_0)).trans hx505_0
      replace hx505_1 := (HB.out.cell (World.block_lt_of_cell? w _ hx505_1)).trans hx505_1
      replace hx505_2 := (HB.out.cell (World.block_lt_of_cell? w _ hx505_2)).trans hx505_2
      replace hx505_3 := (HB.out.cell (World.block_lt_of_cell? w _ hx505_3)).trans hx505_3
      replace hx505_4 := (HB.out.cell (World.block_lt_of_cell? w _ hx505_4)).trans hx505_4
      have HR505_4 := Aside0.mk hi505_4
      have HC505_4 := Aside0.mk hl505_4
      clear hi505_4 hl505_4
      replace p505 := eq_true p505
      replace q505 := eq_true q505
      go_wp2_with (first | ((with_reducible refine gate_callee (f := 44) rfl ?_); refine goesL_ (some 17) rfl rfl Try.func44 (by kernel_rfl) rfl #[.agg #[.int .u64 ((rd_T32 l0_0 x3_1).f0.f0.f0), .int .i64 ((rd_T32 l0_0 x3_1).f0.f0.f1), .int .u64 ((rd_T32 l0_0 x3_1).f0.f1), .int .i64 ((rd_T32 l0_0 x3_1).f0.f2), .slice A505_4 ((rd_T32 l0_0 x3_1).f1).length c505_4]] rfl za_ ?_; (with_reducible refine (folkmootref15_Form.calls ((rd_T32 l0_0 x3_1).f0.f0.f0) ((rd_T32 l0_0 x3_1).f0.f0.f1) ((rd_T32 l0_0 x3_1).f0.f1) ((rd_T32 l0_0 x3_1).f0.f2) _ _ ((rd_T32 l0_0 x3_1).f1) true _ ?side1 ?side2 A5.out).mono ?_); (case side1 => exact zc_ HR505_4 HB); (case side2 => exact HC505_4.out); rintro e w8 ⟨rfl, hb⟩; refine ⟨_, rfl, ?_⟩; have n0_ := zk_ BK504 hb; have n1_ := Aside0.mk (below_step zb_ hb); clear BK504; clear HB; have BK504 := n0_; have HB := n1_; clear n0_ n1_; (try clear hb); (try clear hb2); (try clear hk); (try clear hi)))
      go_roundg k1
      case measure => have := HK1.out; omega
      case rel => exact ⟨(wrap64 (x3_1 + 1)), (by first | rfl | (simp; done) | (simp [*]; done)), H', ⟨by have := HK1.out; omega⟩, ⟨by (with_reducible repeat (first | refine blk_drewN ?_ _ | refine blk_drew ?_ | refine blk_alloc ?_ _)); exact BK504.out⟩, ⟨by repeat (first | (with_reducible first | exact HB.out | apply below_alloc | apply pw_below_drewN | apply below_drew1 | refine below_set ?_ GE504.out) | exact HB.out)⟩⟩
     ·
      replace c6 := Bool.eq_false_iff.mpr c6
      subst c6
      have H1 : (some false) = some r := by rw [if_neg (show ¬ (false = true) by decide)] at H; exact H
      clear H
      have H := H1
      clear H1
      obtain rfl := Option.some.inj H
      have hcz9_0 : wr.cell? ⟨gb504, 0, none⟩ = some (.slice A0_0 l0_0.length c0_0) := (blk_cell BK504.out 0).trans rfl
      have hcz9_1 : wr.cell? ⟨gb504, 1, none⟩ = some (.slice A0_1 l0_1.length c0_1) := (blk_cell BK504.out 1).trans rfl
      have hcz9_2 : wr.cell? ⟨gb504, 2, none⟩ = some (.int .i64 a0_2) := (blk_cell BK504.out 2).trans rfl
      have hcz9_3 : wr.cell? ⟨gb504, 3, none⟩ = some (.int .u64 a0_3) := (blk_cell BK504.out 3).trans rfl
      have hcz9_4 : wr.cell? ⟨gb504, 4, none⟩ = some (.int .i64 a0_4) := (blk_cell BK504.out 4).trans rfl
      have hfz9_0 := blk_frozen BK504.out 0
      have hfz9_1 := blk_frozen BK504.out 1
      have hfz9_2 := blk_frozen BK504.out 2
      have hfz9_3 := blk_frozen BK504.out 3
      have hfz9_4 := blk_frozen BK504.out 4
      have p505 : 0 ≤ (x3_1 : Int) := of_decide_eq_true zs_
      have q505 : x3_1 < (l0_0.length : Int) := of_decide_eq_true zs_
      obtain ⟨ad505, A505_4, c505_4, e505, hx505_0, hx505_1, hx505_2, hx505_3, hx505_4, hl505_4, hi505_4⟩ := at_T32 HR0_0.out x3_1 p505 q505
      cases e505
      replace hx505_0 := (HB.out.cell (World.block_lt_of_cell? w _ hx505_0)).trans hx505_0
      replace hx505_1 := (HB.out.cell (World.block_lt_of_cell? w _ hx505_1)).trans hx505_1
      replace hx505_2 := (HB.out.cell (World.block_lt_of_cell? w _ hx505_2)).trans hx505_2
      replace hx505_3 := (HB.out.cell (World.block_lt_of_cell? w _ hx505_3)).trans hx505_3
      replace hx505_4 := (HB.out.cell (World.block_lt_of_cell? w _ hx505_4)).trans hx505_4
      have HR505_4 := Aside0.mk hi505_4
      have HC505_4 := Aside0.mk hl505_4
      clear hi505_4 hl505_4
      replace p505 := eq_true p505
      replace q505 := eq_true q505
      go_wp2_with (first | ((with_reducible refine gate_callee (f := 44) rfl ?_); refine goesL_ (some 17) rfl rfl Try.func44 (by kernel_rfl) rfl #[.agg #[.int .u64 ((rd_T32 l0_0 x3_1).f0.f0.f0), .int .i64 ((rd_T32 l0_0 x3_1).f0.f0.f1), .int .u64 ((rd_T32 l0_0 x3_1).f0.f1), .int .i64 ((rd_T32 l0_0 x3_1).f0.f2), .slice A505_4 ((rd_T32 l0_0 x3_1).f1).length c505_4]] rfl za_ ?_; (with_reducible refine (folkmootref15_Form.calls ((rd_T32 l0_0 x3_1).f0.f0.f0) ((rd_T32 l0_0 x3_1).f0.f0.f1) ((rd_T32 l0_0 x3_1).f0.f1) ((rd_T32 l0_0 x3_1).f0.f2) _ _ ((rd_T32 l0_0 x3_1).f1) false _ ?side1 ?side2 A5.out).mono ?_); (case side1 => exact zc_ HR505_4 HB); (case side2 => exact HC505_4.out); rintro e w10 ⟨rfl, hb⟩; refine ⟨_, rfl, ?_⟩; have n0_ := zk_ BK504 hb; have n1_ := Aside0.mk (below_step zb_ hb); clear BK504; clear HB; have BK504 := n0_; have HB := n1_; clear n0_ n1_; (try clear hb); (try clear hb2); (try clear hk); (try clear hi)))
      go_ret
      exact ⟨by first | rfl | (simp [errW_none, errW_some] <;> rfl) | (simp [*, errW_none, errW_some] <;> rfl), by repeat (first | (with_reducible first | exact HB.out | apply below_alloc | apply pw_below_drewN | apply below_drew1 | refine below_set ?_ GE504.out) | exact HB.out)⟩
    ·
     rw [if_neg c4] at H
     exact absurd H (by simp)
   ·
    rw [if_neg c3] at H
    have c3b0 : decide (x3_1 < (l0_0.length : Int)) = false := decide_eq_false c3
    clear c3
    have H' := Aside0.mk H
    clear H
    have hcz11_0 : wr.cell? ⟨gb504, 0, none⟩ = some (.slice A0_0 l0_0.length c0_0) := (blk_cell BK504.out 0).trans rfl
    have hcz11_1 : wr.cell? ⟨gb504, 1, none⟩ = some (.slice A0_1 l0_1.length c0_1) := (blk_cell BK504.out 1).trans rfl
    have hcz11_2 : wr.cell? ⟨gb504, 2, none⟩ = some (.int .i64 a0_2) := (blk_cell BK504.out 2).trans rfl
    have hcz11_3 : wr.cell? ⟨gb504, 3, none⟩ = some (.int .u64 a0_3) := (blk_cell BK504.out 3).trans rfl
    have hcz11_4 : wr.cell? ⟨gb504, 4, none⟩ = some (.int .i64 a0_4) := (blk_cell BK504.out 4).trans rfl
    have hfz11_0 := blk_frozen BK504.out 0
    have hfz11_1 := blk_frozen BK504.out 1
    have hfz11_2 := blk_frozen BK504.out 2
    have hfz11_3 := blk_frozen BK504.out 3
    have hfz11_4 := blk_frozen BK504.out 4
    go_wp2
    go_loopg [4] k1 (fun kq v4 w' => ∃ (x4_2 : Int), v4 = .int .i64 x4_2 ∧ Aside0 (folkmootref15_Right.l1 kq x4_2 l0_0 l0_1 a0_2 a0_3 a0_4 = some r) ∧ Aside0 (kq ≤ k1) ∧ Aside0 (w'.heap[gb504]? = some (.cells #[(.slice A0_0 l0_0.length c0_0), (.slice A0_1 l0_1.length c0_1), .int .i64 a0_2, .int .u64 a0_3, .int .i64 a0_4] 53 (0, 0))) ∧ Aside0 (Below w.heap.size w w'))
    case atStart => exact ⟨(0), (by first | rfl | (simp; done) | (simp [*]; done)), H', ⟨Nat.le_refl _⟩, ⟨by (with_reducible repeat (first | refine blk_drewN ?_ _ | refine blk_drew ?_ | refine blk_alloc ?_ _)); exact BK504.out⟩, ⟨by repeat (first | (with_reducible first | exact HB.out | apply below_alloc | apply pw_below_drewN | apply below_drew1 | refine below_set ?_ GE504.out) | exact HB.out)⟩⟩
    case round =>
     clear H'
     try clear p2
     try clear c3
     try clear c3b0
     try clear c4
     try clear c4b0
     try clear c5
     try clear p5
     try clear q5
     try clear hx5
     try clear c6
     try clear p6
     try clear hcz11_0
     try clear hcz11_1
     try clear hcz11_2
     try clear hcz11_3
     try clear hcz11_4
     try clear hcz7_0
     try clear hcz7_1
     try clear hcz7_2
     try clear hcz7_3
     try clear hcz7_4
     try clear hcz9_0
     try clear hcz9_1
     try clear hcz9_2
     try clear hcz9_3
     try clear hcz9_4
     try clear hfz11_0
     try clear hfz11_1
     try clear hfz11_2
     try clear hfz11_3
     try clear hfz11_4
     try clear hfz7_0
     try clear hfz7_1
     try clear hfz7_2
     try clear hfz7_3
     try clear hfz7_4
     try clear hfz9_0
     try clear hfz9_1
     try clear hfz9_2
     try clear hfz9_3
     try clear hfz9_4
     try clear hx505_0
     try clear hx505_1
     try clear hx505_2
     try clear hx505_3
     try clear hx505_4
     try clear p2
     try clear p505
     try clear q505
     obtain ⟨x4_2, rfl, HA, HK2, BK504, HB⟩ := hrel
     cases gk with
     | zero => exact absurd HA.out (by simp [folkmootref15_Right.l1])
     | succ k2 =>
      have H := HA.out
      clear HA
      simp only [folkmootref15_Right.l1] at H
      by_cases c12 : x4_2 < (l0_1.length : Int)
      ·
       rw [if_pos c12] at H
       have c12b0 : decide (x4_2 < (l0_1.length : Int)) = true := decide_eq_true c12
       clear c12
       by_cases c13 : 0 ≤ x4_2
       ·
        rw [if_pos c13] at H
        have c13b0 : decide (0 ≤ x4_2) = true := decide_eq_true c13
        clear c13
        replace H := Option.bind_eq_some_iff.mp H
        obtain ⟨t510, A140, H⟩ := H
        replace H : (if t510 = true then (if x4_2 ≤ (l0_1.length : Int) then ((folkmootref05_In.f k2 (l0_1.take (x4_2 : Int).toNat) ((rd_T27 l0_1 x4_2).f0.f0) ((rd_T27 l0_1 x4_2).f0.f1) ((rd_T27 l0_1 x4_2).f1) ((rd_T27 l0_1 x4_2).f2)).bind fun t516 => (if t516 = true then (some false) else (folkmootref15_Right.l1 k2 (wrap64 (x4_2 + 1)) l0_0 l0_1 a0_2 a0_3 a0_4))) else (none)) else (some false)) = some r := H
        have A14 := Aside0.mk A140
        clear A140
        by_cases c15 : t510 = true
        ·
         subst c15
         have H1 : (if x4_2 ≤ (l0_1.length : Int) then ((folkmootref05_In.f k2 (l0_1.take (x4_2 : Int).toNat) ((rd_T27 l0_1 x4_2).f0.f0) ((rd_T27 l0_1 x4_2).f0.f1) ((rd_T27 l0_1 x4_2).f1) ((rd_T27 l0_1 x4_2).f2)).bind fun t516 => (if t516 = true then (some false) else (folkmootref15_Right.l1 k2 (wrap64 (x4_2 + 1)) l0_0 l0_1 a0_2 a0_3 a0_4))) else (none)) = some r := by rw [if_pos rfl] at H; exact H
         clear H
         have H := H1
         clear H1
         have c16b0 := eq_true (of_decide_eq_true zs_ : 0 ≤ x4_2)
         by_cases c17 : x4_2 ≤ (l0_1.length : Int)
         ·
          rw [if_pos c17] at H
          have c17b0 := eq_true c17
          have c17b1 : decide (x4_2 ≤ (l0_1.length : Int)) = true := decide_eq_true c17
          clear c17
          obtain ⟨y511, hy511⟩ : ∃ y_ : List (S27), y_ = (l0_1.take (x4_2 : Int).toNat) := ⟨_, rfl⟩
          replace H : ((folkmootref05_In.f k2 y511 ((rd_T27 l0_1 x4_2).f0.f0) ((rd_T27 l0_1 x4_2).f0.f1) ((rd_T27 l0_1 x4_2).f1) ((rd_T27 l0_1 x4_2).f2)).bind fun t516 => (if t516 = true then (some false) else (folkmootref15_Right.l1 k2 (wrap64 (x4_2 + 1)) l0_0 l0_1 a0_2 a0_3 a0_4))) = some r := by first | (rw [hy511]; with_reducible exact H) | (have H2_ := (Option.bind_some _ _).symm.trans H; rw [hy511]; with_reducible exact H2_) | (have H2_ := (Option.bind_some _ _).symm.trans H; with_reducible exact H2_) | with_reducible exact H | (rw [hy511]; exact H) | exact H
          have Ny511 := Aside0.mk hy511
          clear hy511
          replace H := Option.bind_eq_some_iff.mp H
          obtain ⟨t516, A180, H⟩ := H
          replace H : (if t516 = true then (some false) else (folkmootref15_Right.l1 k2 (wrap64 (x4_2 + 1)) l0_0 l0_1 a0_2 a0_3 a0_4)) = some r := H
          have A18 := Aside0.mk A180
          clear A180
          by_cases c19 : t516 = true
          ·
           subst c19
           have H1 : (some false) = some r := by rw [if_pos rfl] at H; exact H
           clear H
           have H := H1
           clear H1
           obtain rfl := Option.some.inj H
           have hcz20_0 : wr.cell? ⟨gb504, 0, none⟩ = some (.slice A0_0 l0_0.length c0_0) := (blk_cell BK504.out 0).trans rfl
           have hcz20_1 : wr.cell? ⟨gb504, 1, none⟩ = some (.slice A0_1 l0_1.length c0_1) := (blk_cell BK504.out 1).trans rfl
           have hcz20_2 : wr.cell? ⟨gb504, 2, none⟩ = some (.int .i64 a0_2) := (blk_cell BK504.out 2).trans rfl
           have hcz20_3 : wr.cell? ⟨gb504, 3, none⟩ = some (.int .u64 a0_3) := (blk_cell BK504.out 3).trans rfl
           have hcz20_4 : wr.cell? ⟨gb504, 4, none⟩ = some (.int .i64 a0_4) := (blk_cell BK504.out 4).trans rfl
           have hfz20_0 := blk_frozen BK504.out 0
           have hfz20_1 := blk_frozen BK504.out 1
           have hfz20_2 := blk_frozen BK504.out 2
           have hfz20_3 := blk_frozen BK504.out 3
           have hfz20_4 := blk_frozen BK504.out 4
           try go_wp2
           have n0_ := Aside0.mk (blk_drew BK504.out)
           have n1_ := Aside0.mk (below_drew1 HB.out)
           clear BK504
           clear HB
           have BK504 := n0_
           have HB := n1_
           clear n0_ n1_
           have p509 : 0 ≤ (x4_2 : Int) := of_decide_eq_true zs_
           have q509 : x4_2 < (l0_1.length : Int) := of_decide_eq_true zs_
           obtain ⟨ad509, e509, hx509_0, hx509_1, hx509_2, hx509_3⟩ := at_T27 HR0_1.out x4_2 p509 q509
           have hw509_3 := hx509_3
           have hw509_2 := hx509_2
           have hw509_1 := hx509_1
           have hw509_0 := hx509_0
           cases e509
           replace hx509_0 := (HB.out.cell (World.block_lt_of_cell? w _ hx509_0)).trans hx509_0
           replace hx509_1 := (HB.out.cell (World.block_lt_of_cell? w _ hx509_1)).trans hx509_1
           replace hx509_2 := (HB.out.cell (World.block_lt_of_cell? w _ hx509_2)).trans hx509_2
           replace hx509_3 := (HB.out.cell (World.block_lt_of_cell? w _ hx509_3)).trans hx509_3
           replace p509 := eq_true p509
           replace q509 := eq_true q509
           have p515 : 0 ≤ (x4_2 : Int) := of_decide_eq_true zs_
           have q515 : x4_2 < (l0_1.length : Int) := of_decide_eq_true zs_
           obtain ⟨ad515, e515, hx515_0, hx515_1, hx515_2, hx515_3⟩ := at_T27 HR0_1.out x4_2 p515 q515
           have hw515_3 := hx515_3
           have hw515_2 := hx515_2
           have hw515_1 := hx515_1
           have hw515_0 := hx515_0
           obtain rfl : ad509 = ad515 := (by injection e515)
           replace hx515_0 := (HB.out.cell (World.block_lt_of_cell? w _ hx515_0)).trans hx515_0
           replace hx515_1 := (HB.out.cell (World.block_lt_of_cell? w _ hx515_1)).trans hx515_1
           replace hx515_2 := (HB.out.cell (World.block_lt_of_cell? w _ hx515_2)).trans hx515_2
           replace hx515_3 := (HB.out.cell (World.block_lt_of_cell? w _ hx515_3)).trans hx515_3
           replace p515 := eq_true p515
           replace q515 := eq_true q515
           refine start_ (n := 19) (S := fun w' => w'.cell? ⟨gb504, 0, none⟩ = some (.slice A0_0 l0_0.length c0_0) ∧ w'.cell? ⟨gb504, 1, none⟩ = some (.slice (some ad509) l0_1.length c0_1) ∧ w'.cell? ⟨gb504, 2, none⟩ = some (.int .i64 a0_2) ∧ w'.cell? ⟨gb504, 3, none⟩ = some (.int .u64 a0_3) ∧ w'.cell? ⟨gb504, 4, none⟩ = some (.int .i64 a0_4) ∧ w'.cell? (ad509.add ((x4_2).toNat * 4)) = some (.int .u64 ((rd_T27 l0_1 x4_2).f0.f0)) ∧ w'.cell? ⟨(ad509.add ((x4_2).toNat * 4)).block, (ad509.add ((x4_2).toNat * 4)).off + 1, none⟩ = some (.int .i64 ((rd_T27 l0_1 x4_2).f0.f1)) ∧ w'.cell? ⟨(ad509.add ((x4_2).toNat * 4)).block, (ad509.add ((x4_2).toNat * 4)).off + 2, none⟩ = some (.int .u64 ((rd_T27 l0_1 x4_2).f1)) ∧ w'.cell? ⟨(ad509.add ((x4_2).toNat * 4)).block, (ad509.add ((x4_2).toNat * 4)).off + 3, none⟩ = some (.int .i64 ((rd_T27 l0_1 x4_2).f2)) ∧ w'.cell? (ad509.add ((x4_2).toNat * 4)) = some (.int .u64 ((rd_T27 l0_1 x4_2).f0.f0)) ∧ w'.cell? ⟨(ad509.add ((x4_2).toNat * 4)).block, (ad509.add ((x4_2).toNat * 4)).off + 1, none⟩ = some (.int .i64 ((rd_T27 l0_1 x4_2).f0.f1)) ∧ w'.cell? ⟨(ad509.add ((x4_2).toNat * 4)).block, (ad509.add ((x4_2).toNat * 4)).off + 2, none⟩ = some (.int .u64 ((rd_T27 l0_1 x4_2).f1)) ∧ w'.cell? ⟨(ad509.add ((x4_2).toNat * 4)).block, (ad509.add ((x4_2).toNat * 4)).off + 3, none⟩ = some (.int .i64 ((rd_T27 l0_1 x4_2).f2))) (ds := []) #[F_,F_,F_,F_,F_,F_,F_,F_,F_,F_,F_,F_,F_,F_,F_,F_,F_,F_,F_] (by kernel_rfl) rfl rfl ⟨(blk_cell BK504.out 0).trans rfl, (blk_cell BK504.out 1).trans rfl, (blk_cell BK504.out 2).trans rfl, (blk_cell BK504.out 3).trans rfl, (blk_cell BK504.out 4).trans rfl, ((HB.out.cell (World.block_lt_of_cell? w _ hw509_0)).trans hw509_0), ((HB.out.cell (World.block_lt_of_cell? w _ hw509_1)).trans hw509_1), ((HB.out.cell (World.block_lt_of_cell? w _ hw509_2)).trans hw509_2), ((HB.out.cell (World.block_lt_of_cell? w _ hw509_3)).trans hw509_3), ((HB.out.cell (World.block_lt_of_cell? w _ hw515_0)).trans hw515_0), ((HB.out.cell (World.block_lt_of_cell? w _ hw515_1)).trans hw515_1), ((HB.out.cell (World.block_lt_of_cell? w _ hw515_2)).trans hw515_2), ((HB.out.cell (World.block_lt_of_cell? w _ hw515_3)).trans hw515_3)⟩ (fun hHeld => ?_); refine with_tabW folkmootref15_Right.tab9 folkmootref15_Right.bits9 (fun HT_ HW_ => ?_)
           generalize wr.drew = w21 at BK504 HB hx509_0 hx509_1 hx509_2 hx509_3 hx515_0 hx515_1 hx515_2 hx515_3 hHeld ⊢
           refine pure_ (i := 0) (N := some 26) (v := ?_) (a' := ?_) #[T_,F_,F_,F_,F_,F_,F_,F_,F_,F_,F_,F_,F_,F_,F_,F_,F_,F_,F_] rfl rfl (any_of HT_.out (by kernel_rfl)) (fun _ _ _ h => h) (Or.inl ⟨by rfl, ?_⟩) ?_ ?_
           rotate_left
           ·
            intro w'; go_simp; with_reducible rfl
           rotate_left
           ·
            exact zp_
           refine pure_ (i := 2) (N := some 28) (v := ?_) (a' := ?_) #[T_,F_,T_,F_,F_,F_,F_,F_,F_,F_,F_,F_,F_,F_,F_,F_,F_,F_,F_] rfl rfl (any_of HT_.out (by kernel_rfl)) (fun _ _ _ h => h) (Or.inl ⟨by rfl, ?_⟩) ?_ ?_
           rotate_left
           ·
            intro w'; go_simp; with_reducible rfl
           rotate_left
           ·
            exact zp_
           refine take_ (i := 1) (N := some 27) (v := ?_) (a' := ?_) #[T_,T_,T_,F_,F_,F_,F_,F_,F_,F_,F_,F_,F_,F_,F_,F_,F_,F_,F_] rfl rfl (take_ofW HT_.out HW_.out (by kernel_rfl)) (fun _ _ _ h => h) (Or.inl ⟨by rfl, ?_⟩) hHeld ?_ ?_
           rotate_left
           ·
            rintro w' ⟨s0, s1, s2, s3, s4, s5, s6, s7, s8, s9, s10, s11, s12⟩
            go_simp
            with_reducible rfl
           rotate_left
           ·
            exact zp_
           refine pure_ (i := 3) (N := some 29) (v := ?_) (a' := ?_) #[T_,T_,T_,T_,F_,F_,F_,F_,F_,F_,F_,F_,F_,F_,F_,F_,F_,F_,F_] rfl rfl (any_of HT_.out (by kernel_rfl)) (fun _ _ _ h => h) (Or.inl ⟨by rfl, ?_⟩) ?_ ?_
           rotate_left
           ·
            intro w'; go_simp; with_reducible rfl
           rotate_left
           ·
            exact zp_
           refine take_ (i := 4) (N := some 30) (v := ?_) (a' := ?_) #[T_,T_,T_,T_,T_,F_,F_,F_,F_,F_,F_,F_,F_,F_,F_,F_,F_,F_,F_] rfl rfl (take_ofW HT_.out HW_.out (by kernel_rfl)) (fun _ _ _ h => h) (Or.inl ⟨by rfl, ?_⟩) hHeld ?_ ?_
           rotate_left
           ·
            rintro w' ⟨s0, s1, s2, s3, s4, s5, s6, s7, s8, s9, s10, s11, s12⟩
            go_simp
            with_reducible rfl
           rotate_left
           ·
            exact zp_
           refine one_ (i := 5) (N := some 31) #[T_,T_,T_,T_,T_,T_,F_,F_,F_,F_,F_,F_,F_,F_,F_,F_,F_,F_,F_] rfl rfl (one_of HT_.out (by kernel_rfl)) (by decide) (fun K hK => ?_)
           refine goes_ Try.func41 (by kernel_rfl) rfl #[.agg #[.int .u64 ((rd_T27 l0_1 x4_2).f0.f0), .int .i64 ((rd_T27 l0_1 x4_2).f0.f1), .int .u64 ((rd_T27 l0_1 x4_2).f1), .int .i64 ((rd_T27 l0_1 x4_2).f2)]] (by rfl) rfl rfl za_ ?_
           with_reducible refine (folkmootref05_Form.calls ((rd_T27 l0_1 x4_2).f0.f0) ((rd_T27 l0_1 x4_2).f0.f1) ((rd_T27 l0_1 x4_2).f1) ((rd_T27 l0_1 x4_2).f2) true _ A14.out).mono ?_
           rintro e w22 ⟨rfl, hb⟩
           refine ⟨_, rfl, ?_⟩
           have n0_ := zk_ BK504 hb
           have n1_ := Aside0.mk (below_step zb_ hb)
           clear BK504
           clear HB
           have BK504 := n0_
           have HB := n1_
           clear n0_ n1_
           (try clear hb)
           (try clear hb2)
           (try clear hk)
           (try clear hi)
           have q23 : (x4_2 : Int) ≤ ((l0_1.length : Int) : Int) := of_decide_eq_true zs_
           obtain ⟨i023, hi023, _, hsz23, _⟩ := info_parts info27
           have hroom23 : l0_1.length ≤ c0_1 := HC0_1.out
           have hC23 : Kd.C k27 _ (some ad509) l0_1.length l0_1 := HR0_1.out
           have hcut23 := cut_to (P := Try.prog) 41 27 .i64 Try.underlying41 hi023 (some ad509) l0_1.length c0_1 x4_2 (of_decide_eq_true zs_) q23 hroom23
           have hr23 := Kd.C_take (m := (x4_2 : Int).toNat) hC23 (by omega)
           have hy23 : y511.length = (x4_2 : Int).toNat := (by rw [Ny511.out, List.length_take]; omega)
           rw [← Ny511.out] at hr23
           rw [← hy23] at hcut23
           have HR514 := Aside0.mk hr23
           have HC514 := Aside0.mk (show y511.length ≤ c0_1 from by omega)
           clear hr23 hC23 hroom23 hi023 hsz23
           have KY23 := Aside0.mk hy23
           clear hy23
           replace q23 := eq_true q23
           refine hK.out _ _ ⟨(blk_cell BK504.out 0).trans rfl, (blk_cell BK504.out 1).trans rfl, (blk_cell BK504.out 2).trans rfl, (blk_cell BK504.out 3).trans rfl, (blk_cell BK504.out 4).trans rfl, ((HB.out.cell (World.block_lt_of_cell? w _ hw509_0)).trans hw509_0), ((HB.out.cell (World.block_lt_of_cell? w _ hw509_1)).trans hw509_1), ((HB.out.cell (World.block_lt_of_cell? w _ hw509_2)).trans hw509_2), ((HB.out.cell (World.block_lt_of_cell? w _ hw509_3)).trans hw509_3), ((HB.out.cell (World.block_lt_of_cell? w _ hw515_0)).trans hw515_0), ((HB.out.cell (World.block_lt_of_cell? w _ hw515_1)).trans hw515_1), ((HB.out.cell (World.block_lt_of_cell? w _ hw515_2)).trans hw515_2), ((HB.out.cell (World.block_lt_of_cell? w _ hw515_3)).trans hw515_3)⟩ (fun hHeld => ?_)
           clear hK K
           refine norm_ (a' := ?_) ?_ ?_
           rotate_left
           ·
            show Act.put _ (some 31) _ = _
            simp only [Act.put, List.setIfInBounds_toArray, List.set_cons_zero, List.set_cons_succ, i64_w, i32_w]
            rfl
           refine pure_ (i := 6) (N := some 32) (v := ?_) (a' := ?_) #[T_,T_,T_,T_,T_,T_,T_,F_,F_,F_,F_,F_,F_,F_,F_,F_,F_,F_,F_] rfl rfl (any_of HT_.out (by kernel_rfl)) (fun _ _ _ h => h) (Or.inl ⟨by rfl, ?_⟩) ?_ ?_
           rotate_left
           ·
            intro w'; go_simp; with_reducible rfl
           rotate_left
           ·
            exact zp_
           refine pure_ (i := 7) (N := some 33) (v := ?_) (a' := ?_) #[T_,T_,T_,T_,T_,T_,T_,T_,F_,F_,F_,F_,F_,F_,F_,F_,F_,F_,F_] rfl rfl (any_of HT_.out (by kernel_rfl)) (fun _ _ _ h => h) (Or.inl ⟨by rfl, ?_⟩) ?_ ?_
           rotate_left
           ·
            intro w'; go_simp; with_reducible rfl
           rotate_left
           ·
            exact zp_
           refine pure_ (i := 8) (N := some 34) (v := ?_) (a' := ?_) #[T_,T_,T_,T_,T_,T_,T_,T_,T_,F_,F_,F_,F_,F_,F_,F_,F_,F_,F_] rfl rfl (any_of HT_.out (by kernel_rfl)) (fun _ _ _ h => h) (Or.inl ⟨by rfl, ?_⟩) ?_ ?_
           rotate_left
           ·
            intro w'; go_simp; with_reducible rfl
           rotate_left
           ·
            exact zp_
           refine pure_ (i := 10) (N := some 36) (v := ?_) (a' := ?_) #[T_,T_,T_,T_,T_,T_,T_,T_,T_,F_,T_,F_,F_,F_,F_,F_,F_,F_,F_] rfl rfl (any_of HT_.out (by kernel_rfl)) (fun _ _ _ h => h) (Or.inl ⟨by rfl, ?_⟩) ?_ ?_
           rotate_left
           ·
            intro w'; go_simp; with_reducible rfl
           rotate_left
           ·
            exact zp_
           refine pure_ (i := 12) (N := some 38) (v := ?_) (a' := ?_) #[T_,T_,T_,T_,T_,T_,T_,T_,T_,F_,T_,F_,T_,F_,F_,F_,F_,F_,F_] rfl rfl (any_of HT_.out (by kernel_rfl)) (fun _ _ _ h => h) (Or.inl ⟨by rfl, ?_⟩) ?_ ?_
           rotate_left
           ·
            intro w'; go_simp; with_reducible rfl
           rotate_left
           ·
            exact zp_
           refine pure_ (i := 14) (N := some 40) (v := ?_) (a' := ?_) #[T_,T_,T_,T_,T_,T_,T_,T_,T_,F_,T_,F_,T_,F_,T_,F_,F_,F_,F_] rfl rfl (any_of HT_.out (by kernel_rfl)) (fun _ _ _ h => h) (Or.inl ⟨by rfl, ?_⟩) ?_ ?_
           rotate_left
           ·
            intro w'; go_simp; with_reducible rfl
           rotate_left
           ·
            exact zp_
           refine take_ (i := 9) (N := some 35) (v := ?_) (a' := ?_) #[T_,T_,T_,T_,T_,T_,T_,T_,T_,T_,T_,F_,T_,F_,T_,F_,F_,F_,F_] rfl rfl (take_ofW HT_.out HW_.out (by kernel_rfl)) (fun _ _ _ h => h) (Or.inl ⟨by rfl, ?_⟩) hHeld ?_ ?_
           rotate_left
           ·
            rintro w' ⟨s0, s1, s2, s3, s4, s5, s6, s7, s8, s9, s10, s11, s12⟩
            go_simp
            with_reducible rfl
           rotate_left
           ·
            exact zp_
           refine pure_ (i := 11) (N := some 37) (v := ?_) (a' := ?_) #[T_,T_,T_,T_,T_,T_,T_,T_,T_,T_,T_,T_,T_,F_,T_,F_,F_,F_,F_] rfl rfl (any_of HT_.out (by kernel_rfl)) (fun _ _ _ h => h) (Or.inl ⟨by rfl, ?_⟩) ?_ ?_
           rotate_left
           ·
            intro w'; go_simp; with_reducible rfl
           rotate_left
           ·
            exact zp_
           refine take_ (i := 13) (N := some 39) (v := ?_) (a' := ?_) #[T_,T_,T_,T_,T_,T_,T_,T_,T_,T_,T_,T_,T_,T_,T_,F_,F_,F_,F_] rfl rfl (take_ofW HT_.out HW_.out (by kernel_rfl)) (fun _ _ _ h => h) (Or.inl ⟨by rfl, ?_⟩) hHeld ?_ ?_
           rotate_left
           ·
            rintro w' ⟨s0, s1, s2, s3, s4, s5, s6, s7, s8, s9, s10, s11, s12⟩
            go_simp
            with_reducible rfl
           rotate_left
           ·
            exact zp_
           refine pure_ (i := 15) (N := some 41) (v := ?_) (a' := ?_) #[T_,T_,T_,T_,T_,T_,T_,T_,T_,T_,T_,T_,T_,T_,T_,T_,F_,F_,F_] rfl rfl (any_of HT_.out (by kernel_rfl)) (fun _ _ _ h => h) (Or.inl ⟨by rfl, ?_⟩) ?_ ?_
           rotate_left
           ·
            intro w'; go_simp; with_reducible rfl
           rotate_left
           ·
            exact zp_
           refine take_ (i := 16) (N := some 42) (v := ?_) (a' := ?_) #[T_,T_,T_,T_,T_,T_,T_,T_,T_,T_,T_,T_,T_,T_,T_,T_,T_,F_,F_] rfl rfl (take_ofW HT_.out HW_.out (by kernel_rfl)) (fun _ _ _ h => h) (Or.inl ⟨by rfl, ?_⟩) hHeld ?_ ?_
           rotate_left
           ·
            rintro w' ⟨s0, s1, s2, s3, s4, s5, s6, s7, s8, s9, s10, s11, s12⟩
            go_simp
            with_reducible rfl
           rotate_left
           ·
            exact zp_
           refine one_ (i := 17) (N := some 43) #[T_,T_,T_,T_,T_,T_,T_,T_,T_,T_,T_,T_,T_,T_,T_,T_,T_,T_,F_] rfl rfl (one_of HT_.out (by kernel_rfl)) (by decide) (fun K hK => ?_)
           refine goes_ Try.func36 (by kernel_rfl) rfl #[.slice (some ad509) y511.length c0_1, .agg #[.int .u64 ((rd_T27 l0_1 x4_2).f0.f0), .int .i64 ((rd_T27 l0_1 x4_2).f0.f1), .int .u64 ((rd_T27 l0_1 x4_2).f1), .int .i64 ((rd_T27 l0_1 x4_2).f2)]] (by rfl) rfl rfl za_ ?_
           with_reducible refine (folkmootref05_In.calls k2 _ _ y511 ((rd_T27 l0_1 x4_2).f0.f0) ((rd_T27 l0_1 x4_2).f0.f1) ((rd_T27 l0_1 x4_2).f1) ((rd_T27 l0_1 x4_2).f2) true _ ?side1 ?side2 A18.out).mono ?_
           (case side1 => exact zc_ HR514 HB)
           (case side2 => exact HC514.out)
           rintro e w24 ⟨rfl, hb⟩
           refine ⟨_, rfl, ?_⟩
           have n0_ := zk_ BK504 hb
           have n1_ := Aside0.mk (below_step zb_ hb)
           clear BK504
           clear HB
           have BK504 := n0_
           have HB := n1_
           clear n0_ n1_
           (try clear hb)
           (try clear hb2)
           (try clear hk)
           (try clear hi)
           refine hK.out _ _ ⟨(blk_cell BK504.out 0).trans rfl, (blk_cell BK504.out 1).trans rfl, (blk_cell BK504.out 2).trans rfl, (blk_cell BK504.out 3).trans rfl, (blk_cell BK504.out 4).trans rfl, ((HB.out.cell (World.block_lt_of_cell? w _ hw509_0)).trans hw509_0), ((HB.out.cell (World.block_lt_of_cell? w _ hw509_1)).trans hw509_1), ((HB.out.cell (World.block_lt_of_cell? w _ hw509_2)).trans hw509_2), ((HB.out.cell (World.block_lt_of_cell? w _ hw509_3)).trans hw509_3), ((HB.out.cell (World.block_lt_of_cell? w _ hw515_0)).trans hw515_0), ((HB.out.cell (World.block_lt_of_cell? w _ hw515_1)).trans hw515_1), ((HB.out.cell (World.block_lt_of_cell? w _ hw515_2)).trans hw515_2), ((HB.out.cell (World.block_lt_of_cell? w _ hw515_3)).trans hw515_3)⟩ (fun hHeld => ?_)
           clear hK K
           refine norm_ (a' := ?_) ?_ ?_
           rotate_left
           ·
            show Act.put _ (some 43) _ = _
            simp only [Act.put, List.setIfInBounds_toArray, List.set_cons_zero, List.set_cons_succ, i64_w, i32_w]
            rfl
           refine pure_ (i := 18) (N := some 44) (v := ?_) (a' := ?_) #[T_,T_,T_,T_,T_,T_,T_,T_,T_,T_,T_,T_,T_,T_,T_,T_,T_,T_,T_] rfl rfl (any_of HT_.out (by kernel_rfl)) (fun _ _ _ h => h) (Or.inl ⟨by rfl, ?_⟩) ?_ ?_
           rotate_left
           ·
            intro w'; go_simp; with_reducible rfl
           rotate_left
           ·
            exact zp_
           refine done_ (done_of HT_.out (by kernel_rfl)) ?_
           (try clear hHeld); (try clear HS0_)
           try go_wp2
           go_ret
           exact ⟨by first | rfl | (simp [errW_none, errW_some] <;> rfl) | (simp [*, errW_none, errW_some] <;> rfl), by repeat (first | (with_reducible first | exact HB.out | apply below_alloc | apply pw_below_drewN | apply below_drew1 | refine below_set ?_ GE504.out) | exact HB.out)⟩
          ·
           replace c19 := Bool.eq_false_iff.mpr c19
           subst c19
           have H1 : (folkmootref15_Right.l1 k2 (wrap64 (x4_2 + 1)) l0_0 l0_1 a0_2 a0_3 a0_4) = some r := by rw [if_neg (show ¬ (false = true) by decide)] at H; exact H
           clear H
           have H := H1
           clear H1
           have H' := Aside0.mk H
           clear H
           have hcz25_0 : wr.cell? ⟨gb504, 0, none⟩ = some (.slice A0_0 l0_0.length c0_0) := (blk_cell BK504.out 0).trans rfl
           have hcz25_1 : wr.cell? ⟨gb504, 1, none⟩ = some (.slice A0_1 l0_1.length c0_1) := (blk_cell BK504.out 1).trans rfl
           have hcz25_2 : wr.cell? ⟨gb504, 2, none⟩ = some (.int .i64 a0_2) := (blk_cell BK504.out 2).trans rfl
           have hcz25_3 : wr.cell? ⟨gb504, 3, none⟩ = some (.int .u64 a0_3) := (blk_cell BK504.out 3).trans rfl
           have hcz25_4 : wr.cell? ⟨gb504, 4, none⟩ = some (.int .i64 a0_4) := (blk_cell BK504.out 4).trans rfl
           have hfz25_0 := blk_frozen BK504.out 0
           have hfz25_1 := blk_frozen BK504.out 1
           have hfz25_2 := blk_frozen BK504.out 2
           have hfz25_3 := blk_frozen BK504.out 3
           have hfz25_4 := blk_frozen BK504.out 4
           try go_wp2
           have n0_ := Aside0.mk (blk_drew BK504.out)
           have n1_ := Aside0.mk (below_drew1 HB.out)
           clear BK504
           clear HB
           have BK504 := n0_
           have HB := n1_
           clear n0_ n1_
           have p509 : 0 ≤ (x4_2 : Int) := of_decide_eq_true zs_
           have q509 : x4_2 < (l0_1.length : Int) := of_decide_eq_true zs_
           obtain ⟨ad509, e509, hx509_0, hx509_1, hx509_2, hx509_3⟩ := at_T27 HR0_1.out x4_2 p509 q509
           have hw509_3 := hx509_3
           have hw509_2 := hx509_2
           have hw509_1 := hx509_1
           have hw509_0 := hx509_0
           cases e509
           replace hx509_0 := (HB.out.cell (World.block_lt_of_cell? w _ hx509_0)).trans hx509_0
           replace hx509_1 := (HB.out.cell (World.block_lt_of_cell? w _ hx509_1)).trans hx509_1
           replace hx509_2 := (HB.out.cell (World.block_lt_of_cell? w _ hx509_2)).trans hx509_2
           replace hx509_3 := (HB.out.cell (World.block_lt_of_cell? w _ hx509_3)).trans hx509_3
           replace p509 := eq_true p509
           replace q509 := eq_true q509
           have p515 : 0 ≤ (x4_2 : Int) := of_decide_eq_true zs_
           have q515 : x4_2 < (l0_1.length : Int) := of_decide_eq_true zs_
           obtain ⟨ad515, e515, hx515_0, hx515_1, hx515_2, hx515_3⟩ := at_T27 HR0_1.out x4_2 p515 q515
           have hw515_3 := hx515_3
           have hw515_2 := hx515_2
           have hw515_1 := hx515_1
           have hw515_0 := hx515_0
           obtain rfl : ad509 = ad515 := (by injection e515)
           replace hx515_0 := (HB.out.cell (World.block_lt_of_cell? w _ hx515_0)).trans hx515_0
           replace hx515_1 := (HB.out.cell (World.block_lt_of_cell? w _ hx515_1)).trans hx515_1
           replace hx515_2 := (HB.out.cell (World.block_lt_of_cell? w _ hx515_2)).trans hx515_2
           replace hx515_3 := (HB.out.cell (World.block_lt_of_cell? w _ hx515_3)).trans hx515_3
           replace p515 := eq_true p515
           replace q515 := eq_true q515
           refine start_ (n := 19) (S := fun w' => w'.cell? ⟨gb504, 0, none⟩ = some (.slice A0_0 l0_0.length c0_0) ∧ w'.cell? ⟨gb504, 1, none⟩ = some (.slice (some ad509) l0_1.length c0_1) ∧ w'.cell? ⟨gb504, 2, none⟩ = some (.int .i64 a0_2) ∧ w'.cell? ⟨gb504, 3, none⟩ = some (.int .u64 a0_3) ∧ w'.cell? ⟨gb504, 4, none⟩ = some (.int .i64 a0_4) ∧ w'.cell? (ad509.add ((x4_2).toNat * 4)) = some (.int .u64 ((rd_T27 l0_1 x4_2).f0.f0)) ∧ w'.cell? ⟨(ad509.add ((x4_2).toNat * 4)).block, (ad509.add ((x4_2).toNat * 4)).off + 1, none⟩ = some (.int .i64 ((rd_T27 l0_1 x4_2).f0.f1)) ∧ w'.cell? ⟨(ad509.add ((x4_2).toNat * 4)).block, (ad509.add ((x4_2).toNat * 4)).off + 2, none⟩ = some (.int .u64 ((rd_T27 l0_1 x4_2).f1)) ∧ w'.cell? ⟨(ad509.add ((x4_2).toNat * 4)).block, (ad509.add ((x4_2).toNat * 4)).off + 3, none⟩ = some (.int .i64 ((rd_T27 l0_1 x4_2).f2)) ∧ w'.cell? (ad509.add ((x4_2).toNat * 4)) = some (.int .u64 ((rd_T27 l0_1 x4_2).f0.f0)) ∧ w'.cell? ⟨(ad509.add ((x4_2).toNat * 4)).block, (ad509.add ((x4_2).toNat * 4)).off + 1, none⟩ = some (.int .i64 ((rd_T27 l0_1 x4_2).f0.f1)) ∧ w'.cell? ⟨(ad509.add ((x4_2).toNat * 4)).block, (ad509.add ((x4_2).toNat * 4)).off + 2, none⟩ = some (.int .u64 ((rd_T27 l0_1 x4_2).f1)) ∧ w'.cell? ⟨(ad509.add ((x4_2).toNat * 4)).block, (ad509.add ((x4_2).toNat * 4)).off + 3, none⟩ = some (.int .i64 ((rd_T27 l0_1 x4_2).f2))) (ds := []) #[F_,F_,F_,F_,F_,F_,F_,F_,F_,F_,F_,F_,F_,F_,F_,F_,F_,F_,F_] (by kernel_rfl) rfl rfl ⟨(blk_cell BK504.out 0).trans rfl, (blk_cell BK504.out 1).trans rfl, (blk_cell BK504.out 2).trans rfl, (blk_cell BK504.out 3).trans rfl, (blk_cell BK504.out 4).trans rfl, ((HB.out.cell (World.block_lt_of_cell? w _ hw509_0)).trans hw509_0), ((HB.out.cell (World.block_lt_of_cell? w _ hw509_1)).trans hw509_1), ((HB.out.cell (World.block_lt_of_cell? w _ hw509_2)).trans hw509_2), ((HB.out.cell (World.block_lt_of_cell? w _ hw509_3)).trans hw509_3), ((HB.out.cell (World.block_lt_of_cell? w _ hw515_0)).trans hw515_0), ((HB.out.cell (World.block_lt_of_cell? w _ hw515_1)).trans hw515_1), ((HB.out.cell (World.block_lt_of_cell? w _ hw515_2)).trans hw515_2), ((HB.out.cell (World.block_lt_of_cell? w _ hw515_3)).trans hw515_3)⟩ (fun hHeld => ?_); refine with_tabW folkmootref15_Right.tab9 folkmootref15_Right.bits9 (fun HT_ HW_ => ?_)
           generalize wr.drew = w26 at BK504 HB hx509_0 hx509_1 hx509_2 hx509_3 hx515_0 hx515_1 hx515_2 hx515_3 hHeld ⊢
           refine pure_ (i := 0) (N := some 26) (v := ?_) (a' := ?_) #[T_,F_,F_,F_,F_,F_,F_,F_,F_,F_,F_,F_,F_,F_,F_,F_,F_,F_,F_] rfl rfl (any_of HT_.out (by kernel_rfl)) (fun _ _ _ h => h) (Or.inl ⟨by rfl, ?_⟩) ?_ ?_
           rotate_left
           ·
            intro w'; go_simp; with_reducible rfl
           rotate_left
           ·
            exact zp_
           refine pure_ (i := 2) (N := some 28) (v := ?_) (a' := ?_) #[T_,F_,T_,F_,F_,F_,F_,F_,F_,F_,F_,F_,F_,F_,F_,F_,F_,F_,F_] rfl rfl (any_of HT_.out (by kernel_rfl)) (fun _ _ _ h => h) (Or.inl ⟨by rfl, ?_⟩) ?_ ?_
           rotate_left
           ·
            intro w'; go_simp; with_reducible rfl
           rotate_left
           ·
            exact zp_
           refine take_ (i := 1) (N := some 27) (v := ?_) (a' := ?_) #[T_,T_,T_,F_,F_,F_,F_,F_,F_,F_,F_,F_,F_,F_,F_,F_,F_,F_,F_] rfl rfl (take_ofW HT_.out HW_.out (by kernel_rfl)) (fun _ _ _ h => h) (Or.inl ⟨by rfl, ?_⟩) hHeld ?_ ?_
           rotate_left
           ·
            rintro w' ⟨s0, s1, s2, s3, s4, s5, s6, s7, s8, s9, s10, s11, s12⟩
            go_simp
            with_reducible rfl
           rotate_left
           ·
            exact zp_
           refine pure_ (i := 3) (N := some 29) (v := ?_) (a' := ?_) #[T_,T_,T_,T_,F_,F_,F_,F_,F_,F_,F_,F_,F_,F_,F_,F_,F_,F_,F_] rfl rfl (any_of HT_.out (by kernel_rfl)) (fun _ _ _ h => h) (Or.inl ⟨by rfl, ?_⟩) ?_ ?_
           rotate_left
           ·
            intro w'; go_simp; with_reducible rfl
           rotate_left
           ·
            exact zp_
           refine take_ (i := 4) (N := some 30) (v := ?_) (a' := ?_) #[T_,T_,T_,T_,T_,F_,F_,F_,F_,F_,F_,F_,F_,F_,F_,F_,F_,F_,F_] rfl rfl (take_ofW HT_.out HW_.out (by kernel_rfl)) (fun _ _ _ h => h) (Or.inl ⟨by rfl, ?_⟩) hHeld ?_ ?_
           rotate_left
           ·
            rintro w' ⟨s0, s1, s2, s3, s4, s5, s6, s7, s8, s9, s10, s11, s12⟩
            go_simp
            with_reducible rfl
           rotate_left
           ·
            exact zp_
           refine one_ (i := 5) (N := some 31) #[T_,T_,T_,T_,T_,T_,F_,F_,F_,F_,F_,F_,F_,F_,F_,F_,F_,F_,F_] rfl rfl (one_of HT_.out (by kernel_rfl)) (by decide) (fun K hK => ?_)
           refine goes_ Try.func41 (by kernel_rfl) rfl #[.agg #[.int .u64 ((rd_T27 l0_1 x4_2).f0.f0), .int .i64 ((rd_T27 l0_1 x4_2).f0.f1), .int .u64 ((rd_T27 l0_1 x4_2).f1), .int .i64 ((rd_T27 l0_1 x4_2).f2)]] (by rfl) rfl rfl za_ ?_
           with_reducible refine (folkmootref05_Form.calls ((rd_T27 l0_1 x4_2).f0.f0) ((rd_T27 l0_1 x4_2).f0.f1) ((rd_T27 l0_1 x4_2).f1) ((rd_T27 l0_1 x4_2).f2) true _ A14.out).mono ?_
           rintro e w27 ⟨rfl, hb⟩
           refine ⟨_, rfl, ?_⟩
           have n0_ := zk_ BK504 hb
           have n1_ := Aside0.mk (below_step zb_ hb)
           clear BK504
           clear HB
           have BK504 := n0_
           have HB := n1_
           clear n0_ n1_
           (try clear hb)
           (try clear hb2)
           (try clear hk)
           (try clear hi)
           have q28 : (x4_2 : Int) ≤ ((l0_1.length : Int) : Int) := of_decide_eq_true zs_
           obtain ⟨i028, hi028, _, hsz28, _⟩ := info_parts info27
           have hroom28 : l0_1.length ≤ c0_1 := HC0_1.out
           have hC28 : Kd.C k27 _ (some ad509) l0_1.length l0_1 := HR0_1.out
           have hcut28 := cut_to (P := Try.prog) 41 27 .i64 Try.underlying41 hi028 (some ad509) l0_1.length c0_1 x4_2 (of_decide_eq_true zs_) q28 hroom28
           have hr28 := Kd.C_take (m := (x4_2 : Int).toNat) hC28 (by omega)
           have hy28 : y511.length = (x4_2 : Int).toNat := (by rw [Ny511.out, List.length_take]; omega)
           rw [← Ny511.out] at hr28
           rw [← hy28] at hcut28
           have HR514 := Aside0.mk hr28
           have HC514 := Aside0.mk (show y511.length ≤ c0_1 from by omega)
           clear hr28 hC28 hroom28 hi028 hsz28
           have KY28 := Aside0.mk hy28
           clear hy28
           replace q28 := eq_true q28
           refine hK.out _ _ ⟨(blk_cell BK504.out 0).trans rfl, (blk_cell BK504.out 1).trans rfl, (blk_cell BK504.out 2).trans rfl, (blk_cell BK504.out 3).trans rfl, (blk_cell BK504.out 4).trans rfl, ((HB.out.cell (World.block_lt_of_cell? w _ hw509_0)).trans hw509_0), ((HB.out.cell (World.block_lt_of_cell? w _ hw509_1)).trans hw509_1), ((HB.out.cell (World.block_lt_of_cell? w _ hw509_2)).trans hw509_2), ((HB.out.cell (World.block_lt_of_cell? w _ hw509_3)).trans hw509_3), ((HB.out.cell (World.block_lt_of_cell? w _ hw515_0)).trans hw515_0), ((HB.out.cell (World.block_lt_of_cell? w _ hw515_1)).trans hw515_1), ((HB.out.cell (World.block_lt_of_cell? w _ hw515_2)).trans hw515_2), ((HB.out.cell (World.block_lt_of_cell? w _ hw515_3)).trans hw515_3)⟩ (fun hHeld => ?_)
           clear hK K
           refine norm_ (a' := ?_) ?_ ?_
           rotate_left
           ·
            show Act.put _ (some 31) _ = _
            simp only [Act.put, List.setIfInBounds_toArray, List.set_cons_zero, List.set_cons_succ, i64_w, i32_w]
            rfl
           refine pure_ (i := 6) (N := some 32) (v := ?_) (a' := ?_) #[T_,T_,T_,T_,T_,T_,T_,F_,F_,F_,F_,F_,F_,F_,F_,F_,F_,F_,F_] rfl rfl (any_of HT_.out (by kernel_rfl)) (fun _ _ _ h => h) (Or.inl ⟨by rfl, ?_⟩) ?_ ?_
           rotate_left
           ·
            intro w'; go_simp; with_reducible rfl
           rotate_left
           ·
            exact zp_
           refine pure_ (i := 7) (N := some 33) (v := ?_) (a' := ?_) #[T_,T_,T_,T_,T_,T_,T_,T_,F_,F_,F_,F_,F_,F_,F_,F_,F_,F_,F_] rfl rfl (any_of HT_.out (by kernel_rfl)) (fun _ _ _ h => h) (Or.inl ⟨by rfl, ?_⟩) ?_ ?_
           rotate_left
           ·
            intro w'; go_simp; with_reducible rfl
           rotate_left
           ·
            exact zp_
           refine pure_ (i := 8) (N := some 34) (v := ?_) (a' := ?_) #[T_,T_,T_,T_,T_,T_,T_,T_,T_,F_,F_,F_,F_,F_,F_,F_,F_,F_,F_] rfl rfl (any_of HT_.out (by kernel_rfl)) (fun _ _ _ h => h) (Or.inl ⟨by rfl, ?_⟩) ?_ ?_
           rotate_left
           ·
            intro w'; go_simp; with_reducible rfl
           rotate_left
           ·
            exact zp_
           refine pure_ (i := 10) (N := some 36) (v := ?_) (a' := ?_) #[T_,T_,T_,T_,T_,T_,T_,T_,T_,F_,T_,F_,F_,F_,F_,F_,F_,F_,F_] rfl rfl (any_of HT_.out (by kernel_rfl)) (fun _ _ _ h => h) (Or.inl ⟨by rfl, ?_⟩) ?_ ?_
           rotate_left
           ·
            intro w'; go_simp; with_reducible rfl
           rotate_left
           ·
            exact zp_
           refine pure_ (i := 12) (N := some 38) (v := ?_) (a' := ?_) #[T_,T_,T_,T_,T_,T_,T_,T_,T_,F_,T_,F_,T_,F_,F_,F_,F_,F_,F_] rfl rfl (any_of HT_.out (by kernel_rfl)) (fun _ _ _ h => h) (Or.inl ⟨by rfl, ?_⟩) ?_ ?_
           rotate_left
           ·
            intro w'; go_simp; with_reducible rfl
           rotate_left
           ·
            exact zp_
           refine pure_ (i := 14) (N := some 40) (v := ?_) (a' := ?_) #[T_,T_,T_,T_,T_,T_,T_,T_,T_,F_,T_,F_,T_,F_,T_,F_,F_,F_,F_] rfl rfl (any_of HT_.out (by kernel_rfl)) (fun _ _ _ h => h) (Or.inl ⟨by rfl, ?_⟩) ?_ ?_
           rotate_left
           ·
            intro w'; go_simp; with_reducible rfl
           rotate_left
           ·
            exact zp_
           refine take_ (i := 9) (N := some 35) (v := ?_) (a' := ?_) #[T_,T_,T_,T_,T_,T_,T_,T_,T_,T_,T_,F_,T_,F_,T_,F_,F_,F_,F_] rfl rfl (take_ofW HT_.out HW_.out (by kernel_rfl)) (fun _ _ _ h => h) (Or.inl ⟨by rfl, ?_⟩) hHeld ?_ ?_
           rotate_left
           ·
            rintro w' ⟨s0, s1, s2, s3, s4, s5, s6, s7, s8, s9, s10, s11, s12⟩
            go_simp
            with_reducible rfl
           rotate_left
           ·
            exact zp_
           refine pure_ (i := 11) (N := some 37) (v := ?_) (a' := ?_) #[T_,T_,T_,T_,T_,T_,T_,T_,T_,T_,T_,T_,T_,F_,T_,F_,F_,F_,F_] rfl rfl (any_of HT_.out (by kernel_rfl)) (fun _ _ _ h => h) (Or.inl ⟨by rfl, ?_⟩) ?_ ?_
           rotate_left
           ·
            intro w'; go_simp; with_reducible rfl
           rotate_left
           ·
            exact zp_
           refine take_ (i := 13) (N := some 39) (v := ?_) (a' := ?_) #[T_,T_,T_,T_,T_,T_,T_,T_,T_,T_,T_,T_,T_,T_,T_,F_,F_,F_,F_] rfl rfl (take_ofW HT_.out HW_.out (by kernel_rfl)) (fun _ _ _ h => h) (Or.inl ⟨by rfl, ?_⟩) hHeld ?_ ?_
           rotate_left
           ·
            rintro w' ⟨s0, s1, s2, s3, s4, s5, s6, s7, s8, s9, s10, s11, s12⟩
            go_simp
            with_reducible rfl
           rotate_left
           ·
            exact zp_
           refine pure_ (i := 15) (N := some 41) (v := ?_) (a' := ?_) #[T_,T_,T_,T_,T_,T_,T_,T_,T_,T_,T_,T_,T_,T_,T_,T_,F_,F_,F_] rfl rfl (any_of HT_.out (by kernel_rfl)) (fun _ _ _ h => h) (Or.inl ⟨by rfl, ?_⟩) ?_ ?_
           rotate_left
           ·
            intro w'; go_simp; with_reducible rfl
           rotate_left
           ·
            exact zp_
           refine take_ (i := 16) (N := some 42) (v := ?_) (a' := ?_) #[T_,T_,T_,T_,T_,T_,T_,T_,T_,T_,T_,T_,T_,T_,T_,T_,T_,F_,F_] rfl rfl (take_ofW HT_.out HW_.out (by kernel_rfl)) (fun _ _ _ h => h) (Or.inl ⟨by rfl, ?_⟩) hHeld ?_ ?_
           rotate_left
           ·
            rintro w' ⟨s0, s1, s2, s3, s4, s5, s6, s7, s8, s9, s10, s11, s12⟩
            go_simp
            with_reducible rfl
           rotate_left
           ·
            exact zp_
           refine one_ (i := 17) (N := some 43) #[T_,T_,T_,T_,T_,T_,T_,T_,T_,T_,T_,T_,T_,T_,T_,T_,T_,T_,F_] rfl rfl (one_of HT_.out (by kernel_rfl)) (by decide) (fun K hK => ?_)
           refine goes_ Try.func36 (by kernel_rfl) rfl #[.slice (some ad509) y511.length c0_1, .agg #[.int .u64 ((rd_T27 l0_1 x4_2).f0.f0), .int .i64 ((rd_T27 l0_1 x4_2).f0.f1), .int .u64 ((rd_T27 l0_1 x4_2).f1), .int .i64 ((rd_T27 l0_1 x4_2).f2)]] (by rfl) rfl rfl za_ ?_
           with_reducible refine (folkmootref05_In.calls k2 _ _ y511 ((rd_T27 l0_1 x4_2).f0.f0) ((rd_T27 l0_1 x4_2).f0.f1) ((rd_T27 l0_1 x4_2).f1) ((rd_T27 l0_1 x4_2).f2) false _ ?side1 ?side2 A18.out).mono ?_
           (case side1 => exact zc_ HR514 HB)
           (case side2 => exact HC514.out)
           rintro e w29 ⟨rfl, hb⟩
           refine ⟨_, rfl, ?_⟩
           have n0_ := zk_ BK504 hb
           have n1_ := Aside0.mk (below_step zb_ hb)
           clear BK504
           clear HB
           have BK504 := n0_
           have HB := n1_
           clear n0_ n1_
           (try clear hb)
           (try clear hb2)
           (try clear hk)
           (try clear hi)
           refine hK.out _ _ ⟨(blk_cell BK504.out 0).trans rfl, (blk_cell BK504.out 1).trans rfl, (blk_cell BK504.out 2).trans rfl, (blk_cell BK504.out 3).trans rfl, (blk_cell BK504.out 4).trans rfl, ((HB.out.cell (World.block_lt_of_cell? w _ hw509_0)).trans hw509_0), ((HB.out.cell (World.block_lt_of_cell? w _ hw509_1)).trans hw509_1), ((HB.out.cell (World.block_lt_of_cell? w _ hw509_2)).trans hw509_2), ((HB.out.cell (World.block_lt_of_cell? w _ hw509_3)).trans hw509_3), ((HB.out.cell (World.block_lt_of_cell? w _ hw515_0)).trans hw515_0), ((HB.out.cell (World.block_lt_of_cell? w _ hw515_1)).trans hw515_1), ((HB.out.cell (World.block_lt_of_cell? w _ hw515_2)).trans hw515_2), ((HB.out.cell (World.block_lt_of_cell? w _ hw515_3)).trans hw515_3)⟩ (fun hHeld => ?_)
           clear hK K
           refine norm_ (a' := ?_) ?_ ?_
           rotate_left
           ·
            show Act.put _ (some 43) _ = _
            simp only [Act.put, List.setIfInBounds_toArray, List.set_cons_zero, List.set_cons_succ, i64_w, i32_w]
            rfl
           refine pure_ (i := 18) (N := some 44) (v := ?_) (a' := ?_) #[T_,T_,T_,T_,T_,T_,T_,T_,T_,T_,T_,T_,T_,T_,T_,T_,T_,T_,T_] rfl rfl (any_of HT_.out (by kernel_rfl)) (fun _ _ _ h => h) (Or.inl ⟨by rfl, ?_⟩) ?_ ?_
           rotate_left
           ·
            intro w'; go_simp; with_reducible rfl
           rotate_left
           ·
            exact zp_
           refine done_ (done_of HT_.out (by kernel_rfl)) ?_
           (try clear hHeld); (try clear HS0_)
           try go_wp2
           go_roundg k2
           case measure => have := HK1.out; have := HK2.out; omega
           case rel => exact ⟨(wrap64 (x4_2 + 1)), (by first | rfl | (simp; done) | (simp [*]; done)), H', ⟨by have := HK1.out; have := HK2.out; omega⟩, ⟨by (with_reducible repeat (first | refine blk_drewN ?_ _ | refine blk_drew ?_ | refine blk_alloc ?_ _)); exact BK504.out⟩, ⟨by repeat (first | (with_reducible first | exact HB.out | apply below_alloc | apply pw_below_drewN | apply below_drew1 | refine below_set ?_ GE504.out) | exact HB.out)⟩⟩
         ·
          rw [if_neg c17] at H
          exact absurd H (by simp)
        ·
         replace c15 := Bool.eq_false_iff.mpr c15
         subst c15
         have H1 : (some false) = some r := by rw [if_neg (show ¬ (false = true) by decide)] at H; exact H
         clear H
         have H := H1
         clear H1
         obtain rfl := Option.some.inj H
         have hcz30_0 : wr.cell? ⟨gb504, 0, none⟩ = some (.slice A0_0 l0_0.length c0_0) := (blk_cell BK504.out 0).trans rfl
         have hcz30_1 : wr.cell? ⟨gb504, 1, none⟩ = some (.slice A0_1 l0_1.length c0_1) := (blk_cell BK504.out 1).trans rfl
         have hcz30_2 : wr.cell? ⟨gb504, 2, none⟩ = some (.int .i64 a0_2) := (blk_cell BK504.out 2).trans rfl
         have hcz30_3 : wr.cell? ⟨gb504, 3, none⟩ = some (.int .u64 a0_3) := (blk_cell BK504.out 3).trans rfl
         have hcz30_4 : wr.cell? ⟨gb504, 4, none⟩ = some (.int .i64 a0_4) := (blk_cell BK504.out 4).trans rfl
         have hfz30_0 := blk_frozen BK504.out 0
         have hfz30_1 := blk_frozen BK504.out 1
         have hfz30_2 := blk_frozen BK504.out 2
         have hfz30_3 := blk_frozen BK504.out 3
         have hfz30_4 := blk_frozen BK504.out 4
         try go_wp2
         have n0_ := Aside0.mk (blk_drew BK504.out)
         have n1_ := Aside0.mk (below_drew1 HB.out)
         clear BK504
         clear HB
         have BK504 := n0_
         have HB := n1_
         clear n0_ n1_
         have p509 : 0 ≤ (x4_2 : Int) := of_decide_eq_true zs_
         have q509 : x4_2 < (l0_1.length : Int) := of_decide_eq_true zs_
         obtain ⟨ad509, e509, hx509_0, hx509_1, hx509_2, hx509_3⟩ := at_T27 HR0_1.out x4_2 p509 q509
         have hw509_3 := hx509_3
         have hw509_2 := hx509_2
         have hw509_1 := hx509_1
         have hw509_0 := hx509_0
         cases e509
         replace hx509_0 := (HB.out.cell (World.block_lt_of_cell? w _ hx509_0)).trans hx509_0
         replace hx509_1 := (HB.out.cell (World.block_lt_of_cell? w _ hx509_1)).trans hx509_1
         replace hx509_2 := (HB.out.cell (World.block_lt_of_cell? w _ hx509_2)).trans hx509_2
         replace hx509_3 := (HB.out.cell (World.block_lt_of_cell? w _ hx509_3)).trans hx509_3
         replace p509 := eq_true p509
         replace q509 := eq_true q509
         refine start_ (n := 19) (S := fun w' => w'.cell? ⟨gb504, 0, none⟩ = some (.slice A0_0 l0_0.length c0_0) ∧ w'.cell? ⟨gb504, 1, none⟩ = some (.slice (some ad509) l0_1.length c0_1) ∧ w'.cell? ⟨gb504, 2, none⟩ = some (.int .i64 a0_2) ∧ w'.cell? ⟨gb504, 3, none⟩ = some (.int .u64 a0_3) ∧ w'.cell? ⟨gb504, 4, none⟩ = some (.int .i64 a0_4) ∧ w'.cell? (ad509.add ((x4_2).toNat * 4)) = some (.int .u64 ((rd_T27 l0_1 x4_2).f0.f0)) ∧ w'.cell? ⟨(ad509.add ((x4_2).toNat * 4)).block, (ad509.add ((x4_2).toNat * 4)).off + 1, none⟩ = some (.int .i64 ((rd_T27 l0_1 x4_2).f0.f1)) ∧ w'.cell? ⟨(ad509.add ((x4_2).toNat * 4)).block, (ad509.add ((x4_2).toNat * 4)).off + 2, none⟩ = some (.int .u64 ((rd_T27 l0_1 x4_2).f1)) ∧ w'.cell? ⟨(ad509.add ((x4_2).toNat * 4)).block, (ad509.add ((x4_2).toNat * 4)).off + 3, none⟩ = some (.int .i64 ((rd_T27 l0_1 x4_2).f2))) (ds := []) #[F_,F_,F_,F_,F_,F_,F_,F_,F_,F_,F_,F_,F_,F_,F_,F_,F_,F_,F_] (by kernel_rfl) rfl rfl ⟨(blk_cell BK504.out 0).trans rfl, (blk_cell BK504.out 1).trans rfl, (blk_cell BK504.out 2).trans rfl, (blk_cell BK504.out 3).trans rfl, (blk_cell BK504.out 4).trans rfl, ((HB.out.cell (World.block_lt_of_cell? w _ hw509_0)).trans hw509_0), ((HB.out.cell (World.block_lt_of_cell? w _ hw509_1)).trans hw509_1), ((HB.out.cell (World.block_lt_of_cell? w _ hw509_2)).trans hw509_2), ((HB.out.cell (World.block_lt_of_cell? w _ hw509_3)).trans hw509_3)⟩ (fun hHeld => ?_); refine with_tabW folkmootref15_Right.tab9 folkmootref15_Right.bits9 (fun HT_ HW_ => ?_)
         generalize wr.drew = w31 at BK504 HB hx509_0 hx509_1 hx509_2 hx509_3 hHeld ⊢
         refine pure_ (i := 0) (N := some 26) (v := ?_) (a' := ?_) #[T_,F_,F_,F_,F_,F_,F_,F_,F_,F_,F_,F_,F_,F_,F_,F_,F_,F_,F_] rfl rfl (any_of HT_.out (by kernel_rfl)) (fun _ _ _ h => h) (Or.inl ⟨by rfl, ?_⟩) ?_ ?_
         rotate_left
         ·
          intro w'; go_simp; with_reducible rfl
         rotate_left
         ·
          exact zp_
         refine pure_ (i := 2) (N := some 28) (v := ?_) (a' := ?_) #[T_,F_,T_,F_,F_,F_,F_,F_,F_,F_,F_,F_,F_,F_,F_,F_,F_,F_,F_] rfl rfl (any_of HT_.out (by kernel_rfl)) (fun _ _ _ h => h) (Or.inl ⟨by rfl, ?_⟩) ?_ ?_
         rotate_left
         ·
          intro w'; go_simp; with_reducible rfl
         rotate_left
         ·
          exact zp_
         refine take_ (i := 1) (N := some 27) (v := ?_) (a' := ?_) #[T_,T_,T_,F_,F_,F_,F_,F_,F_,F_,F_,F_,F_,F_,F_,F_,F_,F_,F_] rfl rfl (take_ofW HT_.out HW_.out (by kernel_rfl)) (fun _ _ _ h => h) (Or.inl ⟨by rfl, ?_⟩) hHeld ?_ ?_
         rotate_left
         ·
          rintro w' ⟨s0, s1, s2, s3, s4, s5, s6, s7, s8⟩
          go_simp
          with_reducible rfl
         rotate_left
         ·
          exact zp_
         refine pure_ (i := 3) (N := some 29) (v := ?_) (a' := ?_) #[T_,T_,T_,T_,F_,F_,F_,F_,F_,F_,F_,F_,F_,F_,F_,F_,F_,F_,F_] rfl rfl (any_of HT_.out (by kernel_rfl)) (fun _ _ _ h => h) (Or.inl ⟨by rfl, ?_⟩) ?_ ?_
         rotate_left
         ·
          intro w'; go_simp; with_reducible rfl
         rotate_left
         ·
          exact zp_
         refine take_ (i := 4) (N := some 30) (v := ?_) (a' := ?_) #[T_,T_,T_,T_,T_,F_,F_,F_,F_,F_,F_,F_,F_,F_,F_,F_,F_,F_,F_] rfl rfl (take_ofW HT_.out HW_.out (by kernel_rfl)) (fun _ _ _ h => h) (Or.inl ⟨by rfl, ?_⟩) hHeld ?_ ?_
         rotate_left
         ·
          rintro w' ⟨s0, s1, s2, s3, s4, s5, s6, s7, s8⟩
          go_simp
          with_reducible rfl
         rotate_left
         ·
          exact zp_
         refine one_ (i := 5) (N := some 31) #[T_,T_,T_,T_,T_,T_,F_,F_,F_,F_,F_,F_,F_,F_,F_,F_,F_,F_,F_] rfl rfl (one_of HT_.out (by kernel_rfl)) (by decide) (fun K hK => ?_)
         refine goes_ Try.func41 (by kernel_rfl) rfl #[.agg #[.int .u64 ((rd_T27 l0_1 x4_2).f0.f0), .int .i64 ((rd_T27 l0_1 x4_2).f0.f1), .int .u64 ((rd_T27 l0_1 x4_2).f1), .int .i64 ((rd_T27 l0_1 x4_2).f2)]] (by rfl) rfl rfl za_ ?_
         with_reducible refine (folkmootref05_Form.calls ((rd_T27 l0_1 x4_2).f0.f0) ((rd_T27 l0_1 x4_2).f0.f1) ((rd_T27 l0_1 x4_2).f1) ((rd_T27 l0_1 x4_2).f2) false _ A14.out).mono ?_
         rintro e w32 ⟨rfl, hb⟩
         refine ⟨_, rfl, ?_⟩
         have n0_ := zk_ BK504 hb
         have n1_ := Aside0.mk (below_step zb_ hb)
         clear BK504
         clear HB
         have BK504 := n0_
         have HB := n1_
         clear n0_ n1_
         (try clear hb)
         (try clear hb2)
         (try clear hk)
         (try clear hi)
         refine hK.out _ _ ⟨(blk_cell BK504.out 0).trans rfl, (blk_cell BK504.out 1).trans rfl, (blk_cell BK504.out 2).trans rfl, (blk_cell BK504.out 3).trans rfl, (blk_cell BK504.out 4).trans rfl, ((HB.out.cell (World.block_lt_of_cell? w _ hw509_0)).trans hw509_0), ((HB.out.cell (World.block_lt_of_cell? w _ hw509_1)).trans hw509_1), ((HB.out.cell (World.block_lt_of_cell? w _ hw509_2)).trans hw509_2), ((HB.out.cell (World.block_lt_of_cell? w _ hw509_3)).trans hw509_3)⟩ (fun hHeld => ?_)
         clear hK K
         refine norm_ (a' := ?_) ?_ ?_
         rotate_left
         ·
          show Act.put _ (some 31) _ = _
          simp only [Act.put, List.setIfInBounds_toArray, List.set_cons_zero, List.set_cons_succ, i64_w, i32_w]
          rfl
         refine pure_ (i := 6) (N := some 32) (v := ?_) (a' := ?_) #[T_,T_,T_,T_,T_,T_,T_,F_,F_,F_,F_,F_,F_,F_,F_,F_,F_,F_,F_] rfl rfl (any_of HT_.out (by kernel_rfl)) (fun _ _ _ h => h) (Or.inl ⟨by rfl, ?_⟩) ?_ ?_
         rotate_left
         ·
          intro w'; go_simp; with_reducible rfl
         rotate_left
         ·
          exact zp_
         refine pure_ (i := 7) (N := some 33) (v := ?_) (a' := ?_) #[T_,T_,T_,T_,T_,T_,T_,T_,F_,F_,F_,F_,F_,F_,F_,F_,F_,F_,F_] rfl rfl (any_of HT_.out (by kernel_rfl)) (fun _ _ _ h => h) (Or.inl ⟨by rfl, ?_⟩) ?_ ?_
         rotate_left
         ·
          intro w'; go_simp; with_reducible rfl
         rotate_left
         ·
          exact zp_
         refine pure_ (i := 8) (N := some 34) (v := undef) (a' := ?_) #[T_,T_,T_,T_,T_,T_,T_,T_,T_,F_,F_,F_,F_,F_,F_,F_,F_,F_,F_] rfl rfl (any_of HT_.out (by kernel_rfl)) (fun _ _ _ h => h) (Or.inr ⟨by rfl, rfl⟩) ?_ ?_
         rotate_left
         ·
          exact zp_
         refine pure_ (i := 9) (N := some 35) (v := undef) (a' := ?_) #[T_,T_,T_,T_,T_,T_,T_,T_,T_,T_,F_,F_,F_,F_,F_,F_,F_,F_,F_] rfl rfl (any_of HT_.out (by kernel_rfl)) (fun _ _ _ h => h) (Or.inr ⟨by rfl, rfl⟩) ?_ ?_
         rotate_left
         ·
          exact zp_
         refine pure_ (i := 10) (N := some 36) (v := undef) (a' := ?_) #[T_,T_,T_,T_,T_,T_,T_,T_,T_,T_,T_,F_,F_,F_,F_,F_,F_,F_,F_] rfl rfl (any_of HT_.out (by kernel_rfl)) (fun _ _ _ h => h) (Or.inr ⟨by rfl, rfl⟩) ?_ ?_
         rotate_left
         ·
          exact zp_
         refine pure_ (i := 11) (N := some 37) (v := undef) (a' := ?_) #[T_,T_,T_,T_,T_,T_,T_,T_,T_,T_,T_,T_,F_,F_,F_,F_,F_,F_,F_] rfl rfl (any_of HT_.out (by kernel_rfl)) (fun _ _ _ h => h) (Or.inr ⟨by rfl, rfl⟩) ?_ ?_
         rotate_left
         ·
          exact zp_
         refine pure_ (i := 12) (N := some 38) (v := undef) (a' := ?_) #[T_,T_,T_,T_,T_,T_,T_,T_,T_,T_,T_,T_,T_,F_,F_,F_,F_,F_,F_] rfl rfl (any_of HT_.out (by kernel_rfl)) (fun _ _ _ h => h) (Or.inr ⟨by rfl, rfl⟩) ?_ ?_
         rotate_left
         ·
          exact zp_
         refine pure_ (i := 13) (N := some 39) (v := undef) (a' := ?_) #[T_,T_,T_,T_,T_,T_,T_,T_,T_,T_,T_,T_,T_,T_,F_,F_,F_,F_,F_] rfl rfl (any_of HT_.out (by kernel_rfl)) (fun _ _ _ h => h) (Or.inr ⟨by rfl, rfl⟩) ?_ ?_
         rotate_left
         ·
          exact zp_
         refine pure_ (i := 14) (N := some 40) (v := undef) (a' := ?_) #[T_,T_,T_,T_,T_,T_,T_,T_,T_,T_,T_,T_,T_,T_,T_,F_,F_,F_,F_] rfl rfl (any_of HT_.out (by kernel_rfl)) (fun _ _ _ h => h) (Or.inr ⟨by rfl, rfl⟩) ?_ ?_
         rotate_left
         ·
          exact zp_
         refine pure_ (i := 15) (N := some 41) (v := undef) (a' := ?_) #[T_,T_,T_,T_,T_,T_,T_,T_,T_,T_,T_,T_,T_,T_,T_,T_,F_,F_,F_] rfl rfl (any_of HT_.out (by kernel_rfl)) (fun _ _ _ h => h) (Or.inr ⟨by rfl, rfl⟩) ?_ ?_
         rotate_left
         ·
          exact zp_
         refine pure_ (i := 16) (N := some 42) (v := undef) (a' := ?_) #[T_,T_,T_,T_,T_,T_,T_,T_,T_,T_,T_,T_,T_,T_,T_,T_,T_,F_,F_] rfl rfl (any_of HT_.out (by kernel_rfl)) (fun _ _ _ h => h) (Or.inr ⟨by rfl, rfl⟩) ?_ ?_
         rotate_left
         ·
          exact zp_
         refine pure_ (i := 17) (N := some 43) (v := undef) (a' := ?_) #[T_,T_,T_,T_,T_,T_,T_,T_,T_,T_,T_,T_,T_,T_,T_,T_,T_,T_,F_] rfl rfl (any_of HT_.out (by kernel_rfl)) (fun _ _ _ h => h) (Or.inr ⟨by rfl, rfl⟩) ?_ ?_
         rotate_left
         ·
          exact zp_
         refine pure_ (i := 18) (N := some 44) (v := ?_) (a' := ?_) #[T_,T_,T_,T_,T_,T_,T_,T_,T_,T_,T_,T_,T_,T_,T_,T_,T_,T_,T_] rfl rfl (any_of HT_.out (by kernel_rfl)) (fun _ _ _ h => h) (Or.inl ⟨by rfl, ?_⟩) ?_ ?_
         rotate_left
         ·
          intro w'; go_simp; with_reducible rfl
         rotate_left
         ·
          exact zp_
         refine done_ (done_of HT_.out (by kernel_rfl)) ?_
         (try clear hHeld); (try clear HS0_)
         try go_wp2
         go_ret
         exact ⟨by first | rfl | (simp [errW_none, errW_some] <;> rfl) | (simp [*, errW_none, errW_some] <;> rfl), by repeat (first | (with_reducible first | exact HB.out | apply below_alloc | apply pw_below_drewN | apply below_drew1 | refine below_set ?_ GE504.out) | exact HB.out)⟩
       ·
        rw [if_neg c13] at H
        exact absurd H (by simp)
      ·
       rw [if_neg c12] at H
       have c12b0 : decide (x4_2 < (l0_1.length : Int)) = false := decide_eq_false c12
       clear c12
       replace H := Option.bind_eq_some_iff.mp H
       obtain ⟨t507, A330, H⟩ := H
       replace H : (if t507 = true then (if a0_2 ≥ 1 then (if a0_2 ≤ (wrap64 ((l0_1.length : Int) + 1)) then ((folkmootref04_Form.f a0_3 a0_4).bind fun t508 => (some t508)) else (some false)) else (some false)) else (some false)) = some r := H
       have A33 := Aside0.mk A330
       clear A330
       by_cases c34 : t507 = true
       ·
        subst c34
        have H1 : (if a0_2 ≥ 1 then (if a0_2 ≤ (wrap64 ((l0_1.length : Int) + 1)) then ((folkmootref04_Form.f a0_3 a0_4).bind fun t508 => (some t508)) else (some false)) else (some false)) = some r := by rw [if_pos rfl] at H; exact H
        clear H
        have H := H1
        clear H1
        by_cases c35 : a0_2 ≥ 1
        ·
         rw [if_pos c35] at H
         have c35b0 : decide (1 ≤ a0_2) = true := decide_eq_true c35
         clear c35
         by_cases c36 : a0_2 ≤ (wrap64 ((l0_1.length : Int) + 1))
         ·
          rw [if_pos c36] at H
          have c36b0 : decide (a0_2 ≤ (wrap64 ((l0_1.length : Int) + 1))) = true := decide_eq_true c36
          clear c36
          replace H := Option.bind_eq_some_iff.mp H
          obtain ⟨t508, A370, H⟩ := H
          replace H : (some t508) = some r := H
          have A37 := Aside0.mk A370
          clear A370
          obtain rfl := Option.some.inj H
          have hcz38_0 : wr.cell? ⟨gb504, 0, none⟩ = some (.slice A0_0 l0_0.length c0_0) := (blk_cell BK504.out 0).trans rfl
          have hcz38_1 : wr.cell? ⟨gb504, 1, none⟩ = some (.slice A0_1 l0_1.length c0_1) := (blk_cell BK504.out 1).trans rfl
          have hcz38_2 : wr.cell? ⟨gb504, 2, none⟩ = some (.int .i64 a0_2) := (blk_cell BK504.out 2).trans rfl
          have hcz38_3 : wr.cell? ⟨gb504, 3, none⟩ = some (.int .u64 a0_3) := (blk_cell BK504.out 3).trans rfl
          have hcz38_4 : wr.cell? ⟨gb504, 4, none⟩ = some (.int .i64 a0_4) := (blk_cell BK504.out 4).trans rfl
          have hfz38_0 := blk_frozen BK504.out 0
          have hfz38_1 := blk_frozen BK504.out 1
          have hfz38_2 := blk_frozen BK504.out 2
          have hfz38_3 := blk_frozen BK504.out 3
          have hfz38_4 := blk_frozen BK504.out 4
          go_wp2_with (first | ((with_reducible refine gate_callee (f := 29) rfl ?_); refine goesL_ (some 47) rfl rfl Try.func29 (by kernel_rfl) rfl #[.slice A0_0 l0_0.length c0_0] rfl za_ ?_; (with_reducible refine (folkmootref15_Rising.calls k2 _ _ l0_0 true _ ?side1 ?side2 A33.out).mono ?_); (case side1 => exact zc_ HR0_0 HB); (case side2 => exact HC0_0.out); rintro e w39 ⟨rfl, hb⟩; refine ⟨_, rfl, ?_⟩; have n0_ := zk_ BK504 hb; have n1_ := Aside0.mk (below_step zb_ hb); clear BK504; clear HB; have BK504 := n0_; have HB := n1_; clear n0_ n1_; (try clear hb); (try clear hb2); (try clear hk); (try clear hi); have hcz40_0 : w39.cell? ⟨gb504, 0, none⟩ = some (.slice A0_0 l0_0.length c0_0) := (blk_cell BK504.out 0).trans rfl; have hcz40_1 : w39.cell? ⟨gb504, 1, none⟩ = some (.slice A0_1 l0_1.length c0_1) := (blk_cell BK504.out 1).trans rfl; have hcz40_2 : w39.cell? ⟨gb504, 2, none⟩ = some (.int .i64 a0_2) := (blk_cell BK504.out 2).trans rfl; have hcz40_3 : w39.cell? ⟨gb504, 3, none⟩ = some (.int .u64 a0_3) := (blk_cell BK504.out 3).trans rfl; have hcz40_4 : w39.cell? ⟨gb504, 4, none⟩ = some (.int .i64 a0_4) := (blk_cell BK504.out 4).trans rfl; have hfz40_0 := blk_frozen BK504.out 0; have hfz40_1 := blk_frozen BK504.out 1; have hfz40_2 := blk_frozen BK504.out 2; have hfz40_3 := blk_frozen BK504.out 3; have hfz40_4 := blk_frozen BK504.out 4) | (go_at_call 84; (with_reducible refine (folkmootref04_Form.calls a0_3 a0_4 t508 _ A37.out).mono ?_); rintro e w41 ⟨rfl, hb⟩; have n0_ := zk_ BK504 hb; have n1_ := Aside0.mk (below_step zb_ hb); clear BK504; clear HB; have BK504 := n0_; have HB := n1_; clear n0_ n1_; (try clear hb); (try clear hb2); (try clear hk); (try clear hi)))
          go_ret
          exact ⟨by first | rfl | (simp [errW_none, errW_some] <;> rfl) | (simp [*, errW_none, errW_some] <;> rfl), by repeat (first | (with_reducible first | exact HB.out | apply below_alloc | apply pw_below_drewN | apply below_drew1 | refine below_set ?_ GE504.out) | exact HB.out)⟩
         ·
          rw [if_neg c36] at H
          have c36b0 : decide (a0_2 ≤ (wrap64 ((l0_1.length : Int) + 1))) = false := decide_eq_false c36
          clear c36
          obtain rfl := Option.some.inj H
          have hcz42_0 : wr.cell? ⟨gb504, 0, none⟩ = some (.slice A0_0 l0_0.length c0_0) := (blk_cell BK504.out 0).trans rfl
          have hcz42_1 : wr.cell? ⟨gb504, 1, none⟩ = some (.slice A0_1 l0_1.length c0_1) := (blk_cell BK504.out 1).trans rfl
          have hcz42_2 : wr.cell? ⟨gb504, 2, none⟩ = some (.int .i64 a0_2) := (blk_cell BK504.out 2).trans rfl
          have hcz42_3 : wr.cell? ⟨gb504, 3, none⟩ = some (.int .u64 a0_3) := (blk_cell BK504.out 3).trans rfl
          have hcz42_4 : wr.cell? ⟨gb504, 4, none⟩ = some (.int .i64 a0_4) := (blk_cell BK504.out 4).trans rfl
          have hfz42_0 := blk_frozen BK504.out 0
          have hfz42_1 := blk_frozen BK504.out 1
          have hfz42_2 := blk_frozen BK504.out 2
          have hfz42_3 := blk_frozen BK504.out 3
          have hfz42_4 := blk_frozen BK504.out 4
          go_wp2_with (first | ((with_reducible refine gate_callee (f := 29) rfl ?_); refine goesL_ (some 47) rfl rfl Try.func29 (by kernel_rfl) rfl #[.slice A0_0 l0_0.length c0_0] rfl za_ ?_; (with_reducible refine (folkmootref15_Rising.calls k2 _ _ l0_0 true _ ?side1 ?side2 A33.out).mono ?_); (case side1 => exact zc_ HR0_0 HB); (case side2 => exact HC0_0.out); rintro e w43 ⟨rfl, hb⟩; refine ⟨_, rfl, ?_⟩; have n0_ := zk_ BK504 hb; have n1_ := Aside0.mk (below_step zb_ hb); clear BK504; clear HB; have BK504 := n0_; have HB := n1_; clear n0_ n1_; (try clear hb); (try clear hb2); (try clear hk); (try clear hi); have hcz44_0 : w43.cell? ⟨gb504, 0, none⟩ = some (.slice A0_0 l0_0.length c0_0) := (blk_cell BK504.out 0).trans rfl; have hcz44_1 : w43.cell? ⟨gb504, 1, none⟩ = some (.slice A0_1 l0_1.length c0_1) := (blk_cell BK504.out 1).trans rfl; have hcz44_2 : w43.cell? ⟨gb504, 2, none⟩ = some (.int .i64 a0_2) := (blk_cell BK504.out 2).trans rfl; have hcz44_3 : w43.cell? ⟨gb504, 3, none⟩ = some (.int .u64 a0_3) := (blk_cell BK504.out 3).trans rfl; have hcz44_4 : w43.cell? ⟨gb504, 4, none⟩ = some (.int .i64 a0_4) := (blk_cell BK504.out 4).trans rfl; have hfz44_0 := blk_frozen BK504.out 0; have hfz44_1 := blk_frozen BK504.out 1; have hfz44_2 := blk_frozen BK504.out 2; have hfz44_3 := blk_frozen BK504.out 3; have hfz44_4 := blk_frozen BK504.out 4))
          go_ret
          exact ⟨by first | rfl | (simp [errW_none, errW_some] <;> rfl) | (simp [*, errW_none, errW_some] <;> rfl), by repeat (first | (with_reducible first | exact HB.out | apply below_alloc | apply pw_below_drewN | apply below_drew1 | refine below_set ?_ GE504.out) | exact HB.out)⟩
        ·
         rw [if_neg c35] at H
         have c35b0 : decide (1 ≤ a0_2) = false := decide_eq_false c35
         clear c35
         obtain rfl := Option.some.inj H
         have hcz45_0 : wr.cell? ⟨gb504, 0, none⟩ = some (.slice A0_0 l0_0.length c0_0) := (blk_cell BK504.out 0).trans rfl
         have hcz45_1 : wr.cell? ⟨gb504, 1, none⟩ = some (.slice A0_1 l0_1.length c0_1) := (blk_cell BK504.out 1).trans rfl
         have hcz45_2 : wr.cell? ⟨gb504, 2, none⟩ = some (.int .i64 a0_2) := (blk_cell BK504.out 2).trans rfl
         have hcz45_3 : wr.cell? ⟨gb504, 3, none⟩ = some (.int .u64 a0_3) := (blk_cell BK504.out 3).trans rfl
         have hcz45_4 : wr.cell? ⟨gb504, 4, none⟩ = some (.int .i64 a0_4) := (blk_cell BK504.out 4).trans rfl
         have hfz45_0 := blk_frozen BK504.out 0
         have hfz45_1 := blk_frozen BK504.out 1
         have hfz45_2 := blk_frozen BK504.out 2
         have hfz45_3 := blk_frozen BK504.out 3
         have hfz45_4 := blk_frozen BK504.out 4
         go_wp2_with (first | ((with_reducible refine gate_callee (f := 29) rfl ?_); refine goesL_ (some 47) rfl rfl Try.func29 (by kernel_rfl) rfl #[.slice A0_0 l0_0.length c0_0] rfl za_ ?_; (with_reducible refine (folkmootref15_Rising.calls k2 _ _ l0_0 true _ ?side1 ?side2 A33.out).mono ?_); (case side1 => exact zc_ HR0_0 HB); (case side2 => exact HC0_0.out); rintro e w46 ⟨rfl, hb⟩; refine ⟨_, rfl, ?_⟩; have n0_ := zk_ BK504 hb; have n1_ := Aside0.mk (below_step zb_ hb); clear BK504; clear HB; have BK504 := n0_; have HB := n1_; clear n0_ n1_; (try clear hb); (try clear hb2); (try clear hk); (try clear hi); have hcz47_0 : w46.cell? ⟨gb504, 0, none⟩ = some (.slice A0_0 l0_0.length c0_0) := (blk_cell BK504.out 0).trans rfl; have hcz47_1 : w46.cell? ⟨gb504, 1, none⟩ = some (.slice A0_1 l0_1.length c0_1) := (blk_cell BK504.out 1).trans rfl; have hcz47_2 : w46.cell? ⟨gb504, 2, none⟩ = some (.int .i64 a0_2) := (blk_cell BK504.out 2).trans rfl; have hcz47_3 : w46.cell? ⟨gb504, 3, none⟩ = some (.int .u64 a0_3) := (blk_cell BK504.out 3).trans rfl; have hcz47_4 : w46.cell? ⟨gb504, 4, none⟩ = some (.int .i64 a0_4) := (blk_cell BK504.out 4).trans rfl; have hfz47_0 := blk_frozen BK504.out 0; have hfz47_1 := blk_frozen BK504.out 1; have hfz47_2 := blk_frozen BK504.out 2; have hfz47_3 := blk_frozen BK504.out 3; have hfz47_4 := blk_frozen BK504.out 4))
         go_ret
         exact ⟨by first | rfl | (simp [errW_none, errW_some] <;> rfl) | (simp [*, errW_none, errW_some] <;> rfl), by repeat (first | (with_reducible first | exact HB.out | apply below_alloc | apply pw_below_drewN | apply below_drew1 | refine below_set ?_ GE504.out) | exact HB.out)⟩
       ·
        replace c34 := Bool.eq_false_iff.mpr c34
        subst c34
        have H1 : (some false) = some r := by rw [if_neg (show ¬ (false = true) by decide)] at H; exact H
        clear H
        have H := H1
        clear H1
        obtain rfl := Option.some.inj H
        have hcz48_0 : wr.cell? ⟨gb504, 0, none⟩ = some (.slice A0_0 l0_0.length c0_0) := (blk_cell BK504.out 0).trans rfl
        have hcz48_1 : wr.cell? ⟨gb504, 1, none⟩ = some (.slice A0_1 l0_1.length c0_1) := (blk_cell BK504.out 1).trans rfl
        have hcz48_2 : wr.cell? ⟨gb504, 2, none⟩ = some (.int .i64 a0_2) := (blk_cell BK504.out 2).trans rfl
        have hcz48_3 : wr.cell? ⟨gb504, 3, none⟩ = some (.int .u64 a0_3) := (blk_cell BK504.out 3).trans rfl
        have hcz48_4 : wr.cell? ⟨gb504, 4, none⟩ = some (.int .i64 a0_4) := (blk_cell BK504.out 4).trans rfl
        have hfz48_0 := blk_frozen BK504.out 0
        have hfz48_1 := blk_frozen BK504.out 1
        have hfz48_2 := blk_frozen BK504.out 2
        have hfz48_3 := blk_frozen BK504.out 3
        have hfz48_4 := blk_frozen BK504.out 4
        go_wp2_with (first | ((with_reducible refine gate_callee (f := 29) rfl ?_); refine goesL_ (some 47) rfl rfl Try.func29 (by kernel_rfl) rfl #[.slice A0_0 l0_0.length c0_0] rfl za_ ?_; (with_reducible refine (folkmootref15_Rising.calls k2 _ _ l0_0 false _ ?side1 ?side2 A33.out).mono ?_); (case side1 => exact zc_ HR0_0 HB); (case side2 => exact HC0_0.out); rintro e w49 ⟨rfl, hb⟩; refine ⟨_, rfl, ?_⟩; have n0_ := zk_ BK504 hb; have n1_ := Aside0.mk (below_step zb_ hb); clear BK504; clear HB; have BK504 := n0_; have HB := n1_; clear n0_ n1_; (try clear hb); (try clear hb2); (try clear hk); (try clear hi)))
        go_ret
        exact ⟨by first | rfl | (simp [errW_none, errW_some] <;> rfl) | (simp [*, errW_none, errW_some] <;> rfl), by repeat (first | (with_reducible first | exact HB.out | apply below_alloc | apply pw_below_drewN | apply below_drew1 | refine below_set ?_ GE504.out) | exact HB.out)⟩
end Go.Proofs.Ytioooiflpabngaa.PAll
end
section
namespace Go.Proofs.Ytioooiflpabngaa.PAll
open Go.RowKit Go.Proofs.YtioooiflpabngaaW.PrintWords
set_option linter.unusedVariables false
set_option linter.unusedSimpArgs false
structure RightS (s : S53) : Prop where
  con : ∀ e ∈ s.f0, FormL e.f0 ∧ e.f1.length ≤ 64
  rise : Rise s.f0
  ord : ∀ l ∈ s.f1, FormL l
  once : dup [] s.f1 = false
  next : 1 ≤ s.f2 ∧ s.f2 ≤ (s.f1.length : Int) + 1
  high : ident_Form.f s.f3.f0 s.f3.f1 = some true
  hn : 0 ≤ s.f3.f0 ∧ s.f3.f0 < 18446744073709551616
  hp : 0 ≤ s.f3.f1 ∧ s.f3.f1 < 16
theorem one_ev {x : S32} (h : FormL x.f0) (hm : x.f1.length ≤ 64) : Ev (fun k => content_EncodeOne.f k x.f0.f0.f0 x.f0.f0.f1 x.f0.f1 x.f0.f2 x.f1) (1 :: entB x, 0) := by
  unfold content_EncodeOne.f content_Form.f
  rw [h.label]
  have hl := labB_length h
  have c1 : (x.f1.length : Int) ≤ 64 := by omega
  simp only [Option.bind_some, if_true, c1, decide_true]
  refine Ev.bind (label_ev h [1] (by simp)) ?_
  exact Ev.bind (bytes_ev x.f1 ([1] ++ labB x.f0) hm (by simp; omega)) (Ev.const fun _ => by simp [entB])
theorem index_loop (l : List S27) (h : ∀ x ∈ l, FormL x) (hl : l.length < 9223372036854775807) : ∀ (d i : Nat), d = l.length - i → i ≤ l.length → Ev (fun k => api_Label_126.l0 k l (l.length : Int) (i : Int)) (-1) := by
  intro d
  induction d with
  | zero =>
    intro i hd hi
    exact Ev.step (fun k => by rw [api_Label_126.l0, if_neg (by omega)]) (Ev.const fun _ => rfl)
  | succ d ih =>
    intro i hd hi
    have hlt : i < l.length := by omega
    refine Ev.step (b := fun k => api_Label_126.l0 k l (l.length : Int) ((i + 1 : Nat) : Int)) (fun k => ?_) (ih (i + 1) (by omega) (by omega))
    have h1 : content_Right_1.f l[i].f0.f0 l[i].f0.f1 l[i].f1 l[i].f2 = some false := by
      unfold content_Right_1.f
      rw [(h _ (List.getElem_mem hlt)).label]
      rfl
    rw [api_Label_126.l0, if_pos (by omega), if_pos (by omega), if_pos (by omega), rdL_nat hlt, h1, Option.bind_some, if_neg (by simp), wrap_nat (by omega)]
theorem right_loop (s : S53) (h : RightS s) (hc : s.f0.length ≤ 1000) (ho : s.f1.length ≤ 1000) : ∀ (d i : Nat), d = s.f0.length - i → i ≤ s.f0.length → Ev (fun k => content_Right.l0 k s.f0 (s.f0.length : Int) (i : Int) s.f0 s.f1 s.f2 s.f3.f0 s.f3.f1) true := by
  intro d
  induction d with
  | zero =>
    intro i hd hi
    have hix : Ev (fun k => api_Label_105.f k s.f1) false := by
      unfold api_Label_105.f api_Label_126.f
      exact Ev.bind (index_loop s.f1 h.ord (by omega) s.f1.length 0 rfl (Nat.zero_le _)) (Ev.const fun _ => by simp)
    refine Ev.step (fun k => by rw [content_Right.l0, if_neg (by omega)]) (Ev.bind hix ?_)
    have c1 : s.f2 ≥ 1 := h.next.1
    have c2 : s.f2 ≤ wrap64 ((s.f1.length : Int) + 1) := by
      rw [wrap_nat (by omega)]
      have := h.next.2
      omega
    simp only [Bool.false_eq_true, if_false, twice_eq (show s.f1.length < 4398046511104 by omega), h.once, Option.bind_some, c1, c2, if_true, h.high]
    exact Ev.const fun _ => rfl
  | succ d ih =>
    intro i hd hi
    have hlt : i < s.f0.length := by omega
    have hf := h.con _ (List.getElem_mem hlt)
    have e1 : content_Form.f s.f0[i].f0.f0.f0 s.f0[i].f0.f0.f1 s.f0[i].f0.f1 s.f0[i].f0.f2 s.f0[i].f1 = some true := by
      unfold content_Form.f
      rw [hf.1.label, Option.bind_some, if_pos rfl, decide_eq_true (by omega)]
    refine Ev.step (fun k => by rw [content_Right.l0, if_pos (by omega), if_pos (by omega), if_pos (by omega), rdE_nat hlt, e1, Option.bind_some, if_pos rfl]) ?_
    by_cases hz : (i : Int) > 0
    · have e2 : wrap64 ((i : Int) - 1) = ((i - 1 : Nat) : Int) := by unfold wrap64; omega
      have hl1 : i - 1 < s.f0.length := by omega
      have c1 : (0 : Int) ≤ ((i - 1 : Nat) : Int) := by omega
      have c2 : ((i - 1 : Nat) : Int) < (s.f0.length : Int) := by omega
      have hlt2 := (cmpL_neg _ _).2 (rise_lt h.rise (show i - 1 < i by omega) hlt)
      simp only [hz, if_true, e2, c1, c2, rdE_nat hl1]
      refine Ev.bind (compare_ev s.f0[i - 1].f0 s.f0[i].f0) ?_
      have c3 : ¬ cmpL s.f0[i - 1].f0 s.f0[i].f0 ≥ 0 := by omega
      simp only [c3, if_false, wrap_nat (show i < 9223372036854775807 by omega)]
      exact ih (i + 1) (by omega) (by omega)
    · simp only [hz, if_false, wrap_nat (show i < 9223372036854775807 by omega)]
      exact ih (i + 1) (by omega) (by omega)
def restB (s : S53) : List Int := uintB s.f2.toNat ++ viewB s.f3
def allB (s : S53) : List Int := 2 :: (uintB s.f0.length ++ (s.f0.flatMap entB ++ (uintB s.f1.length ++ (s.f1.flatMap labB ++ restB s))))
theorem ord_loop (s : S53) (h : RightS s) (ho : s.f1.length ≤ 1000) : ∀ (d i : Nat) (p : List Int), d = s.f1.length - i → i ≤ s.f1.length → p.length + d * 22 ≤ 10000000 → Ev (fun k => content_EncodeAll.l1 k p s.f1 (s.f1.length : Int) (i : Int) s.f0 s.f1 s.f2 s.f3.f0 s.f3.f1) (p ++ ((s.f1.drop i).flatMap labB ++ restB s), 0) := by
  intro d
  induction d with
  | zero =>
    intro i p hd hi hp
    have : i = s.f1.length := by omega
    subst this
    rw [List.drop_length]
    have hn := h.next
    have e1 : IntKind.u64.wrap s.f2 = ((s.f2.toNat : Nat) : Int) := by rw [IntKind.wrap_u64]; omega
    have hu := uintB_length s.f2.toNat (by omega)
    refine Ev.step (fun k => by rw [content_EncodeAll.l1, if_neg (by omega), e1]) (Ev.bind (uint_ev s.f2.toNat p (by omega) (by omega)) (Ev.bind (view_ev h.hn h.hp h.high (p ++ uintB s.f2.toNat) (by rw [List.length_append]; omega)) (Ev.const fun _ => ?_)))
    simp [restB]
  | succ d ih =>
    intro i p hd hi hp
    have hlt : i < s.f1.length := by omega
    have hf := h.ord _ (List.getElem_mem hlt)
    have hl := labB_length hf
    rw [List.drop_eq_getElem_cons hlt, List.flatMap_cons, show p ++ (labB s.f1[i] ++ (s.f1.drop (i + 1)).flatMap labB ++ restB s) = (p ++ labB s.f1[i]) ++ ((s.f1.drop (i + 1)).flatMap labB ++ restB s) by simp]
    refine Ev.step (fun k => by rw [content_EncodeAll.l1, if_pos (by omega), if_pos (by omega), if_pos (by omega), rdL_nat hlt, wrap_nat (by omega)]) (Ev.bind (label_ev hf p (by omega)) (ih (i + 1) (p ++ labB s.f1[i]) (by omega) (by omega) (by simp; omega)))
theorem con_loop (s : S53) (h : RightS s) (hc : s.f0.length ≤ 1000) (ho : s.f1.length ≤ 1000) : ∀ (d i : Nat) (p : List Int), d = s.f0.length - i → i ≤ s.f0.length → p.length + d * 96 ≤ 1000000 → Ev (fun k => content_EncodeAll.l0 k p s.f0 (s.f0.length : Int) (i : Int) s.f0 s.f1 s.f2 s.f3.f0 s.f3.f1) (p ++ ((s.f0.drop i).flatMap entB ++ (uintB s.f1.length ++ (s.f1.flatMap labB ++ restB s))), 0) := by
  intro d
  induction d with
  | zero =>
    intro i p hd hi hp
    have : i = s.f0.length := by omega
    subst this
    rw [List.drop_length]
    have e1 : IntKind.u64.wrap ((s.f1.length : Int)) = (s.f1.length : Int) := by rw [IntKind.wrap_u64]; omega
    have hu := uintB_length s.f1.length (by omega)
    refine Ev.step (fun k => by rw [content_EncodeAll.l0, if_neg (by omega), e1]) (Ev.bind (uint_ev s.f1.length p (by omega) (by omega)) ?_)
    have := ord_loop s h ho s.f1.length 0 (p ++ uintB s.f1.length) rfl (Nat.zero_le _) (by simp; omega)
    simpa using this
  | succ d ih =>
    intro i p hd hi hp
    have hlt : i < s.f0.length := by omega
    have hf := h.con _ (List.getElem_mem hlt)
    have hl := entB_length hf.1 hf.2
    have hb := labB_length hf.1
    rw [List.drop_eq_getElem_cons hlt, List.flatMap_cons, show p ++ (entB s.f0[i] ++ (s.f0.drop (i + 1)).flatMap entB ++ (uintB s.f1.length ++ (s.f1.flatMap labB ++ restB s))) = (p ++ entB s.f0[i]) ++ ((s.f0.drop (i + 1)).flatMap entB ++ (uintB s.f1.length ++ (s.f1.flatMap labB ++ restB s))) by simp]
    refine Ev.step (fun k => by rw [content_EncodeAll.l0, if_pos (by omega), if_pos (by omega), if_pos (by omega), rdE_nat hlt, wrap_nat (by omega)]) (Ev.bind (label_ev hf.1 p (by omega)) (Ev.bind (bytes_ev s.f0[i].f1 (p ++ labB s.f0[i].f0) hf.2 (by simp; omega)) ?_))
    rw [List.append_assoc]
    exact ih (i + 1) (p ++ entB s.f0[i]) (by omega) (by omega) (by simp; omega)
theorem all_ev (s : S53) (h : RightS s) (hc : s.f0.length ≤ 1000) (ho : s.f1.length ≤ 1000) : Ev (fun k => content_EncodeAll.f k s.f0 s.f1 s.f2 s.f3.f0 s.f3.f1) (allB s, 0) := by
  unfold content_EncodeAll.f content_Right.f
  refine Ev.bind (right_loop s h hc ho s.f0.length 0 rfl (Nat.zero_le _)) ?_
  have e1 : IntKind.u64.wrap ((s.f0.length : Int)) = (s.f0.length : Int) := by rw [IntKind.wrap_u64]; omega
  have hu := uintB_length s.f0.length (by omega)
  simp only [if_true, e1]
  refine Ev.bind (uint_ev s.f0.length [2] (by omega) (by simp)) ?_
  have := con_loop s h hc ho s.f0.length 0 ([2] ++ uintB s.f0.length) rfl (Nat.zero_le _) (by simp; omega)
  simpa [allB] using this
theorem flat_inj {α : Type} {f : α → List Int} {F : α → Prop} (hf : ∀ a b p q, F a → F b → f a ++ p = f b ++ q → a = b ∧ p = q) : ∀ (l m : List α) (p q : List Int), (∀ a ∈ l, F a) → (∀ a ∈ m, F a) → l.length = m.length → l.flatMap f ++ p = m.flatMap f ++ q → l = m ∧ p = q
  | [], [], p, q, _, _, _, h => ⟨rfl, by simpa using h⟩
  | [], y :: m, _, _, _, _, hl, _ => by simp at hl
  | x :: l, [], _, _, _, _, hl, _ => by simp at hl
  | x :: l, y :: m, p, q, h1, h2, hl, h => by
    rw [List.flatMap_cons, List.flatMap_cons, List.append_assoc, List.append_assoc] at h
    obtain ⟨e1, e2⟩ := hf x y _ _ (h1 x (List.mem_cons_self ..)) (h2 y (List.mem_cons_self ..)) h
    obtain ⟨e3, e4⟩ := flat_inj hf l m p q (fun a ha => h1 a (List.mem_cons_of_mem _ ha)) (fun a ha => h2 a (List.mem_cons_of_mem _ ha)) (by simpa using hl) e2
    exact ⟨by rw [e1, e3], e4⟩
theorem allB_inj {s t : S53} (hs : RightS s) (ht : RightS t) (h : allB s = allB t) : s = t := by
  unfold allB at h
  simp only [List.cons.injEq, true_and] at h
  obtain ⟨h1, h2⟩ := uintB_inj _ _ _ _ h
  obtain ⟨h3, h4⟩ := flat_inj (F := fun e : S32 => FormL e.f0) (fun a b p q ha hb h => entB_inj ha hb h) s.f0 t.f0 _ _ (fun a ha => (hs.con a ha).1) (fun a ha => (ht.con a ha).1) h1 h2
  obtain ⟨h5, h6⟩ := uintB_inj _ _ _ _ h4
  obtain ⟨h7, h8⟩ := flat_inj (F := FormL) (fun a b p q ha hb h => labB_inj ha hb h) s.f1 t.f1 _ _ hs.ord ht.ord h5 h6
  obtain ⟨h9, h10⟩ := uintB_inj _ _ _ _ h8
  obtain ⟨h11, _⟩ := viewB_inj (p := []) (q := []) hs.hn.1 ht.hn.1 (by simpa using h10)
  have h12 : s.f2 = t.f2 := by have := hs.next; have := ht.next; omega
  cases s; cases t
  simp only at h3 h7 h12 h11
  rw [h3, h7, h12, h11]
theorem flat_byt {α : Type} {f : α → List Int} : ∀ {l : List α}, (∀ a ∈ l, Byt (f a)) → Byt (l.flatMap f)
  | [], _ => fun n hn => by simp at hn
  | x :: l, h => by
    rw [List.flatMap_cons]
    exact (h x (List.mem_cons_self ..)).append (flat_byt fun a ha => h a (List.mem_cons_of_mem _ ha))
theorem allB_byt {s : S53} (h : RightS s) (hb : ∀ e ∈ s.f0, Byt e.f1) : Byt (allB s) := by
  intro n hn
  rcases List.mem_cons.1 hn with rfl | hn
  · omega
  · exact ((uintB_byt _).append ((flat_byt fun e he => entB_byt (h.con e he).1 (hb e he)).append ((uintB_byt _).append ((flat_byt fun l hl => labB_byt (h.ord l hl)).append ((uintB_byt _).append (viewB_byt (by have := h.hp; omega))))))) n hn
end Go.Proofs.Ytioooiflpabngaa.PAll
end
section
namespace Go.Proofs.Ytioooiflpabngaa.PAll
open Go.RowKit Go.Proofs.YtioooiflpabngaaW.PrintWords
set_option linter.unusedVariables false
set_option linter.unusedSimpArgs false
theorem rightEs_len {l : List S32} (h : rightEs l) : l.length < 2513169434917 := by
  have h1 := h.1
  have h2 := reachBytes_lt
  have e : (2 : Nat) ^ 47 = 140737488355328 := by decide
  rw [e] at h2
  omega
end Go.Proofs.Ytioooiflpabngaa.PAll
end
section
namespace Go.Proofs.Ytioooiflpabngaa.PAll
open Go.RowKit Go.Proofs.YtioooiflpabngaaW.PrintWords Go.Proofs.YtioooiflpabngaaW.PrintLast Go.Proofs.YtioooiflpabngaaW.PrintMore
attribute [local go_sem] max2_int min2_int max_two min_two max_three min_three max_four min_four   -- for this text's walks alone
set_option linter.unusedVariables false
set_option linter.unusedSimpArgs false
attribute [local go_sem high] eqA27
def folkmootref15_Same.l0 : Nat → List (S32) → List (S32) → Int → Option (Bool)
 | 0, _, _, _ => none
 | k + 1, x0, x1, x5 => if x5 < (x0.length : Int) then (if 0 ≤ x5 then (if x5 < (x1.length : Int) then (if ((!(((rd_T32 x0 x5).f0.f0.f0) == ((rd_T32 x1 x5).f0.f0.f0)) || (!(((rd_T32 x0 x5).f0.f0.f1) == ((rd_T32 x1 x5).f0.f0.f1)))) || (!(((rd_T32 x0 x5).f0.f1) == ((rd_T32 x1 x5).f0.f1)) || (!(((rd_T32 x0 x5).f0.f2) == ((rd_T32 x1 x5).f0.f2))))) = true then (some false) else (if (strOfNums ((rd_T32 x0 x5).f1)).toList = (strOfNums ((rd_T32 x1 x5).f1)).toList then (folkmootref15_Same.l0 k x0 x1 (wrap64 (x5 + 1))) else (some false))) else (none)) else (none)) else (some true)
def folkmootref15_Same.f (k : Nat) (l0 : List (S32)) (l1 : List (S32)) : Option (Bool) := if (l0.length : Int) = (l1.length : Int) then (folkmootref15_Same.l0 k l0 l1 0) else (some false)
set_option maxHeartbeats 8000000 in
set_option maxRecDepth 100000 in
theorem folkmootref15_Same.calls (k : Nat) (A0 : Option Addr) (c0 : Nat) (l0 : List (S32)) (A1 : Option Addr) (c1 : Nat) (l1 : List (S32)) (r : Bool) (w : World) (hr0 : Kd.C k32 w A0 l0.length l0) (hc0 : l0.length ≤ c0) (hr1 : Kd.C k32 w A1 l1.length l1) (hc1 : l1.length ≤ c1) (h : folkmootref15_Same.f k l0 l1 = some r) :
  Calls Try.prog 27 #[.slice A0 l0.length c0, .slice A1 l1.length c1] w fun e w' => e = .returned (.bool r) ∧ Drawn0 w w' := by
 have hu27 := Try.underlying27
 have HR0 := Aside0.mk hr0
 have HC0 := Aside0.mk hc0
 clear hr0 hc0
 have HR1 := Aside0.mk hr1
 have HC1 := Aside0.mk hc1
 clear hr1 hc1
 have H : (if (l0.length : Int) = (l1.length : Int) then (folkmootref15_Same.l0 k l0 l1 0) else (some false)) = some r := h
 clear h
 by_cases c3 : (l0.length : Int) = (l1.length : Int)
 ·
  rw [if_pos c3] at H
  have c3b0 : ((l0.length : Int) == (l1.length : Int)) = true := beq_iff_eq.mpr c3
  have c3b1 : ((l0.length : Int) != (l1.length : Int)) = false := bne_eq_false_iff_eq.mpr c3
  have c3b2 : (l0.length == l1.length) = true := by first | simpa using c3 | (simp at c3 ⊢; omega)
  clear c3
  have H' := Aside0.mk H
  clear H
  go_enter Try.func27, Try.ntmps27
  go_wp2
  repeat (go_quiet (fail); try go_wp2)
  go_loopg [5] k (fun kq v5 w' => ∃ (x5_1 : Int), v5 = .int .i64 x5_1 ∧ Aside0 (folkmootref15_Same.l0 kq l0 l1 x5_1 = some r) ∧ Aside0 (kq ≤ k) ∧ Drawn0 w w')
  case atStart => exact ⟨(0), (by first | rfl | (simp; done) | (simp [*]; done)), H', ⟨Nat.le_refl _⟩, by repeat (first | exact Drawn0.refl _ | apply Drawn0.step)⟩
  case round =>
   clear H'
   try clear c1
   try clear c2
   try clear p2
   try clear c3
   try clear c3b0
   try clear c3b1
   try clear c3b2
   obtain ⟨x5_1, rfl, HA, HK1, ⟨m1, rfl⟩⟩ := hrel
   cases gk with
   | zero => exact absurd HA.out (by simp [folkmootref15_Same.l0])
   | succ k1 =>
    have H := HA.out
    clear HA
    simp only [folkmootref15_Same.l0] at H
    by_cases c4 : x5_1 < (l0.length : Int)
    ·
     rw [if_pos c4] at H
     have c4b0 : decide (x5_1 < (l0.length : Int)) = true := decide_eq_true c4
     clear c4
     by_cases c5 : 0 ≤ x5_1
     ·
      rw [if_pos c5] at H
      have c5b0 : decide (0 ≤ x5_1) = true := decide_eq_true c5
      clear c5
      by_cases c6 : x5_1 < (l1.length : Int)
      ·
       rw [if_pos c6] at H
       have c6b0 : decide (x5_1 < (l1.length : Int)) = true := decide_eq_true c6
       clear c6
       by_cases c7 : ((!(((rd_T32 l0 x5_1).f0.f0.f0) == ((rd_T32 l1 x5_1).f0.f0.f0)) || (!(((rd_T32 l0 x5_1).f0.f0.f1) == ((rd_T32 l1 x5_1).f0.f0.f1)))) || (!(((rd_T32 l0 x5_1).f0.f1) == ((rd_T32 l1 x5_1).f0.f1)) || (!(((rd_T32 l0 x5_1).f0.f2) == ((rd_T32 l1 x5_1).f0.f2))))) = true
       ·
        rw [if_pos c7] at H
        have c7b0 : ((!(((rd_T32 l0 x5_1).f0.f0.f0) == ((rd_T32 l1 x5_1).f0.f0.f0)) || (!(((rd_T32 l0 x5_1).f0.f0.f1) == ((rd_T32 l1 x5_1).f0.f0.f1)))) || (!(((rd_T32 l0 x5_1).f0.f1) == ((rd_T32 l1 x5_1).f0.f1)) || (!(((rd_T32 l0 x5_1).f0.f2) == ((rd_T32 l1 x5_1).f0.f2))))) = true := c7
        clear c7
        obtain rfl := Option.some.inj H
        have p248 : 0 ≤ (x5_1 : Int) := of_decide_eq_true zs_
        have q248 : x5_1 < (l0.length : Int) := of_decide_eq_true zs_
        obtain ⟨ad248, A248_4, c248_4, e248, hx248_0, hx248_1, hx248_2, hx248_3, hx248_4, hl248_4, hi248_4⟩ := at_T32 HR0.out x5_1 p248 q248
        cases e248
        have HR248_4 := Aside0.mk hi248_4
        have HC248_4 := Aside0.mk hl248_4
        clear hi248_4 hl248_4
        replace p248 := eq_true p248
        replace q248 := eq_true q248
        have p249 : 0 ≤ (x5_1 : Int) := of_decide_eq_true zs_
        have q249 : x5_1 < (l1.length : Int) := of_decide_eq_true zs_
        obtain ⟨ad249, A249_4, c249_4, e249, hx249_0, hx249_1, hx249_2, hx249_3, hx249_4, hl249_4, hi249_4⟩ := at_T32 HR1.out x5_1 p249 q249
        cases e249
        have HR249_4 := Aside0.mk hi249_4
        have HC249_4 := Aside0.mk hl249_4
        clear hi249_4 hl249_4
        replace p249 := eq_true p249
        replace q249 := eq_true q249
        go_wp2
        repeat (go_quiet (fail); try go_wp2)
        go_ret
        exact ⟨by first | rfl | (simp; done) | (simp [*]; done), by repeat (first | exact Drawn0.refl _ | apply Drawn0.step)⟩
       ·
        rw [if_neg c7] at H
        have c7b0 : ((!(((rd_T32 l0 x5_1).f0.f0.f0) == ((rd_T32 l1 x5_1).f0.f0.f0)) || (!(((rd_T32 l0 x5_1).f0.f0.f1) == ((rd_T32 l1 x5_1).f0.f0.f1)))) || (!(((rd_T32 l0 x5_1).f0.f1) == ((rd_T32 l1 x5_1).f0.f1)) || (!(((rd_T32 l0 x5_1).f0.f2) == ((rd_T32 l1 x5_1).f0.f2))))) = false := by simpa using c7
        clear c7
        by_cases c8 : (strOfNums ((rd_T32 l0 x5_1).f1)).toList = (strOfNums ((rd_T32 l1 x5_1).f1)).toList
        ·
         rw [if_pos c8] at H
         have c8b0 : ((strOfNums ((rd_T32 l0 x5_1).f1)).toList == (strOfNums ((rd_T32 l1 x5_1).f1)).toList) = true := beq_iff_eq.mpr c8
         have c8b1 : ((strOfNums ((rd_T32 l0 x5_1).f1)).toList != (strOfNums ((rd_T32 l1 x5_1).f1)).toList) = false := bne_eq_false_iff_eq.mpr c8
         clear c8
         have H' := Aside0.mk H
         clear H
         have p248 : 0 ≤ (x5_1 : Int) := of_decide_eq_true zs_
         have q248 : x5_1 < (l0.length : Int) := of_decide_eq_true zs_
         obtain ⟨ad248, A248_4, c248_4, e248, hx248_0, hx248_1, hx248_2, hx248_3, hx248_4, hl248_4, hi248_4⟩ := at_T32 HR0.out x5_1 p248 q248
         cases e248
         have HR248_4 := Aside0.mk hi248_4
         have HC248_4 := Aside0.mk hl248_4
         clear hi248_4 hl248_4
         replace p248 := eq_true p248
         replace q248 := eq_true q248
         have p249 : 0 ≤ (x5_1 : Int) := of_decide_eq_true zs_
         have q249 : x5_1 < (l1.length : Int) := of_decide_eq_true zs_
         obtain ⟨ad249, A249_4, c249_4, e249, hx249_0, hx249_1, hx249_2, hx249_3, hx249_4, hl249_4, hi249_4⟩ := at_T32 HR1.out x5_1 p249 q249
         cases e249
         have HR249_4 := Aside0.mk hi249_4
         have HC249_4 := Aside0.mk hl249_4
         clear hi249_4 hl249_4
         replace p249 := eq_true p249
         replace q249 := eq_true q249
         have p250 : 0 ≤ (x5_1 : Int) := of_decide_eq_true zs_
         have q250 : x5_1 < (l0.length : Int) := of_decide_eq_true zs_
         obtain ⟨ad250, A250_4, c250_4, e250, hx250_0, hx250_1, hx250_2, hx250_3, hx250_4, hl250_4, hi250_4⟩ := at_T32 HR0.out x5_1 p250 q250
         obtain rfl : ad248 = ad250 := (by injection e250)
         have HR250_4 := Aside0.mk hi250_4
         have HC250_4 := Aside0.mk hl250_4
         clear hi250_4 hl250_4
         replace p250 := eq_true p250
         replace q250 := eq_true q250
         have ea_ := Option.some.inj (hx248_4.symm.trans hx250_4)
         injection ea_ with ea_ en_ ec_
         subst ea_
         subst ec_
         clear en_
         have hcv9 := Kd.C_string (P := Try.prog) (A := A248_4) (c := c248_4) Try.underlying30 Try.underlying5 Try.underlying9 HR250_4.out
         have hcv9d := fun n_ : Nat => Kd.C_string (P := Try.prog) (A := A248_4) (c := c248_4) Try.underlying30 Try.underlying5 Try.underlying9 (Kd.C_drewN (HR250_4.out) n_)
         have p251 : 0 ≤ (x5_1 : Int) := of_decide_eq_true zs_
         have q251 : x5_1 < (l1.length : Int) := of_decide_eq_true zs_
         obtain ⟨ad251, A251_4, c251_4, e251, hx251_0, hx251_1, hx251_2, hx251_3, hx251_4, hl251_4, hi251_4⟩ := at_T32 HR1.out x5_1 p251 q251
         obtain rfl : ad249 = ad251 := (by injection e251)
         have HR251_4 := Aside0.mk hi251_4
         have HC251_4 := Aside0.mk hl251_4
         clear hi251_4 hl251_4
         replace p251 := eq_true p251
         replace q251 := eq_true q251
         have ea_ := Option.some.inj (hx249_4.symm.trans hx251_4)
         injection ea_ with ea_ en_ ec_
         subst ea_
         subst ec_
         clear en_
         have hcv10 := Kd.C_string (P := Try.prog) (A := A249_4) (c := c249_4) Try.underlying30 Try.underlying5 Try.underlying9 HR251_4.out
         have hcv10d := fun n_ : Nat => Kd.C_string (P := Try.prog) (A := A249_4) (c := c249_4) Try.underlying30 Try.underlying5 Try.underlying9 (Kd.C_drewN (HR251_4.out) n_)
         go_wp2
         repeat (go_quiet (fail); try go_wp2)
         go_roundg k1
         case measure => have := HK1.out; omega
         case rel => exact ⟨(wrap64 (x5_1 + 1)), (by first | rfl | (simp; done) | (simp [*]; done)), H', ⟨by have := HK1.out; omega⟩, by repeat (first | exact Drawn0.refl _ | apply Drawn0.step)⟩
        ·
         rw [if_neg c8] at H
         have c8b0 : ((strOfNums ((rd_T32 l0 x5_1).f1)).toList == (strOfNums ((rd_T32 l1 x5_1).f1)).toList) = false := beq_eq_false_iff_ne.mpr c8
         have c8b1 : ((strOfNums ((rd_T32 l0 x5_1).f1)).toList != (strOfNums ((rd_T32 l1 x5_1).f1)).toList) = true := bne_iff_ne.mpr c8
         obtain rfl := Option.some.inj H
         have p248 : 0 ≤ (x5_1 : Int) := of_decide_eq_true zs_
         have q248 : x5_1 < (l0.length : Int) := of_decide_eq_true zs_
         obtain ⟨ad248, A248_4, c248_4, e248, hx248_0, hx248_1, hx248_2, hx248_3, hx248_4, hl248_4, hi248_4⟩ := at_T32 HR0.out x5_1 p248 q248
         cases e248
         have HR248_4 := Aside0.mk hi248_4
         have HC248_4 := Aside0.mk hl248_4
         clear hi248_4 hl248_4
         replace p248 := eq_true p248
         replace q248 := eq_true q248
         have p249 : 0 ≤ (x5_1 : Int) := of_decide_eq_true zs_
         have q249 : x5_1 < (l1.length : Int) := of_decide_eq_true zs_
         obtain ⟨ad249, A249_4, c249_4, e249, hx249_0, hx249_1, hx249_2, hx249_3, hx249_4, hl249_4, hi249_4⟩ := at_T32 HR1.out x5_1 p249 q249
         cases e249
         have HR249_4 := Aside0.mk hi249_4
         have HC249_4 := Aside0.mk hl249_4
         clear hi249_4 hl249_4
         replace p249 := eq_true p249
         replace q249 := eq_true q249
         have p250 : 0 ≤ (x5_1 : Int) := of_decide_eq_true zs_
         have q250 : x5_1 < (l0.length : Int) := of_decide_eq_true zs_
         obtain ⟨ad250, A250_4, c250_4, e250, hx250_0, hx250_1, hx250_2, hx250_3, hx250_4, hl250_4, hi250_4⟩ := at_T32 HR0.out x5_1 p250 q250
         obtain rfl : ad248 = ad250 := (by injection e250)
         have HR250_4 := Aside0.mk hi250_4
         have HC250_4 := Aside0.mk hl250_4
         clear hi250_4 hl250_4
         replace p250 := eq_true p250
         replace q250 := eq_true q250
         have ea_ := Option.some.inj (hx248_4.symm.trans hx250_4)
         injection ea_ with ea_ en_ ec_
         subst ea_
         subst ec_
         clear en_
         have hcv11 := Kd.C_string (P := Try.prog) (A := A248_4) (c := c248_4) Try.underlying30 Try.underlying5 Try.underlying9 HR250_4.out
         have hcv11d := fun n_ : Nat => Kd.C_string (P := Try.prog) (A := A248_4) (c := c248_4) Try.underlying30 Try.underlying5 Try.underlying9 (Kd.C_drewN (HR250_4.out) n_)
         have p251 : 0 ≤ (x5_1 : Int) := of_decide_eq_true zs_
         have q251 : x5_1 < (l1.length : Int) := of_decide_eq_true zs_
         obtain ⟨ad251, A251_4, c251_4, e251, hx251_0, hx251_1, hx251_2, hx251_3, hx251_4, hl251_4, hi251_4⟩ := at_T32 HR1.out x5_1 p251 q251
         obtain rfl : ad249 = ad251 := (by injection e251)
         have HR251_4 := Aside0.mk hi251_4
         have HC251_4 := Aside0.mk hl251_4
         clear hi251_4 hl251_4
         replace p251 := eq_true p251
         replace q251 := eq_true q251
         have ea_ := Option.some.inj (hx249_4.symm.trans hx251_4)
         injection ea_ with ea_ en_ ec_
         subst ea_
         subst ec_
         clear en_
         have hcv12 := Kd.C_string (P := Try.prog) (A := A249_4) (c := c249_4) Try.underlying30 Try.underlying5 Try.underlying9 HR251_4.out
         have hcv12d := fun n_ : Nat => Kd.C_string (P := Try.prog) (A := A249_4) (c := c249_4) Try.underlying30 Try.underlying5 Try.underlying9 (Kd.C_drewN (HR251_4.out) n_)
         go_wp2
         repeat (go_quiet (fail); try go_wp2)
         go_ret
         exact ⟨by first | rfl | (simp; done) | (simp [*]; done), by repeat (first | exact Drawn0.refl _ | apply Drawn0.step)⟩
      ·
       rw [if_neg c6] at H
       exact absurd H (by simp)
     ·
      rw [if_neg c5] at H
      exact absurd H (by simp)
    ·
     rw [if_neg c4] at H
     have c4b0 : decide (x5_1 < (l0.length : Int)) = false := decide_eq_false c4
     clear c4
     obtain rfl := Option.some.inj H
     go_wp2
     repeat (go_quiet (fail); try go_wp2)
     go_ret
     exact ⟨by first | rfl | (simp; done) | (simp [*]; done), by repeat (first | exact Drawn0.refl _ | apply Drawn0.step)⟩
 ·
  rw [if_neg c3] at H
  have c3b0 : ((l0.length : Int) == (l1.length : Int)) = false := beq_eq_false_iff_ne.mpr c3
  have c3b1 : ((l0.length : Int) != (l1.length : Int)) = true := bne_iff_ne.mpr c3
  have c3b2 : (l0.length == l1.length) = false := by first | simpa using c3 | (simp at c3 ⊢; omega)
  obtain rfl := Option.some.inj H
  go_enter Try.func27, Try.ntmps27
  go_wp2
  repeat (go_quiet (fail); try go_wp2)
  go_ret
  exact ⟨by first | rfl | (simp; done) | (simp [*]; done), by repeat (first | exact Drawn0.refl _ | apply Drawn0.step)⟩
end Go.Proofs.Ytioooiflpabngaa.PAll
end
section
namespace Go.Proofs.Ytioooiflpabngaa.PAll
open Go.RowKit Go.Proofs.YtioooiflpabngaaW.PrintWords
set_option linter.unusedVariables false
set_option linter.unusedSimpArgs false
theorem form_any (x : S32) (h : rightE x) : ∃ b, folkmootref15_Form.f x.f0.f0.f0 x.f0.f0.f1 x.f0.f1 x.f0.f2 x.f1 = some b ∧ (b = true → FormL x.f0 ∧ x.f1.length ≤ 64) := by
  obtain ⟨f, h1, h2⟩ := forms_alike x.f0 h.1
  unfold folkmootref15_Form.f
  rw [h2, Option.bind_some]
  cases f with
  | false => exact ⟨false, by simp, by simp⟩
  | true =>
    rw [if_pos rfl]
    exact ⟨_, rfl, fun hb => ⟨form_of h.1 h1, by have := of_decide_eq_true hb; omega⟩⟩
theorem view_any (v : S25) (h : rightV v) : ∃ b, folkmootref04_Form.f v.f0 v.f1 = some b ∧ (b = true → ident_Form.f v.f0 v.f1 = some true ∧ (0 ≤ v.f1 ∧ v.f1 < 16)) := by
  have h0 := u64_range h.1
  unfold folkmootref04_Form.f ident_Form.f
  by_cases c0 : v.f0 = 0
  · rw [if_pos c0]
    refine ⟨_, rfl, fun hb => ?_⟩
    have hz : v.f1 = 0 := by simpa using hb
    rw [hz, c0]
    exact ⟨rfl, by omega, by omega⟩
  · rw [if_neg c0]
    by_cases c1 : v.f1 ≥ 0
    · rw [if_pos c1, if_pos c1]
      refine ⟨_, rfl, fun hb => ?_⟩
      have hz := of_decide_eq_true hb
      rw [if_pos (show v.f1 < 16 by omega), if_pos (show v.f0 > 0 by omega)]
      exact ⟨rfl, by omega, by omega⟩
    · rw [if_neg c1]
      exact ⟨false, rfl, fun hb => by cases hb⟩
theorem rising_any (l : List S32) (hl : l.length < 9223372036854775807) : ∀ (d i : Nat), d = l.length - i → 1 ≤ i → ∃ b, Ev (fun k => folkmootref15_Rising.l0 k l (i : Int)) b ∧ (b = true → ∀ j (hj : j < l.length), i ≤ j → ltL (l[j - 1]'(by omega)).f0 l[j].f0) := by
  intro d
  induction d with
  | zero =>
    intro i hd hi
    exact ⟨true, Ev.step (fun k => by rw [folkmootref15_Rising.l0, if_neg (by omega)]) (Ev.const fun _ => rfl), fun _ j hj hij => by omega⟩
  | succ d ih =>
    intro i hd hi
    obtain ⟨i, rfl⟩ : ∃ j, i = j + 1 := ⟨i - 1, by omega⟩
    have e1 : wrap64 (((i + 1 : Nat) : Int) - 1) = (i : Int) := by unfold wrap64; omega
    have h1 : i < l.length := by omega
    have h2 : i + 1 < l.length := by omega
    obtain ⟨b, hb, hc⟩ := ih (i + 1 + 1) (by omega) (by omega)
    have hs : ∀ (b2 : Bool), (if decide (cmpL l[i].f0 l[i + 1].f0 < 0) = true then b else false) = b2 → Ev (fun k => folkmootref15_Rising.l0 k l ((i + 1 : Nat) : Int)) b2 := by
      rintro b2 rfl
      refine Ev.step (b := fun k => (folkmootref05_Less.f k l[i].f0.f0.f0 l[i].f0.f0.f1 l[i].f0.f1 l[i].f0.f2 l[i + 1].f0.f0.f0 l[i + 1].f0.f0.f1 l[i + 1].f0.f1 l[i + 1].f0.f2).bind fun t => if t = true then folkmootref15_Rising.l0 k l ((i + 1 + 1 : Nat) : Int) else some false) (fun k => ?_) (Ev.bind (refLess_ev l[i].f0 l[i + 1].f0) ?_)
      · rw [folkmootref15_Rising.l0, if_pos (by omega), e1, if_pos (by omega), if_pos (by omega), if_pos (by omega), rdE_nat h1, rdE_nat h2, wrap_nat (by omega)]
      · by_cases hlt : cmpL l[i].f0 l[i + 1].f0 < 0
        · simp only [hlt, decide_true, if_true]
          exact hb
        · simp only [hlt, decide_false, Bool.false_eq_true, if_false]
          exact Ev.const fun _ => rfl
    refine ⟨_, hs _ rfl, fun ht j hj hij => ?_⟩
    by_cases hlt : cmpL l[i].f0 l[i + 1].f0 < 0
    · rw [if_pos (decide_eq_true hlt)] at ht
      rcases Nat.lt_or_ge (i + 1) j with h | h
      · exact hc ht j hj h
      · have : j = i + 1 := by omega
        subst this
        exact (cmpL_neg _ _).1 hlt
    · rw [if_neg (by simpa using hlt)] at ht
      cases ht
theorem rise_adj {l : List S32} (h : ∀ j (hj : j < l.length), 1 ≤ j → ltL (l[j - 1]'(by omega)).f0 l[j].f0) : Rise l := by
  refine List.pairwise_iff_getElem.2 fun i j hi hj hij => ?_
  obtain ⟨d, rfl⟩ : ∃ d, j = i + 1 + d := ⟨j - (i + 1), by omega⟩
  clear hij
  induction d with
  | zero => exact h (i + 1) hj (by omega)
  | succ d ih => exact ltL_trans (ih (by omega)) (h (i + 1 + (d + 1)) hj (by omega))
theorem dup_each {l : List S27} (h : ∀ i (hi : i < l.length), memL l[i] (l.take i) = false) : dup [] l = false := by
  have : ∀ (d i : Nat), d = l.length - i → i ≤ l.length → dup (l.take i) (l.drop i) = false := by
    intro d
    induction d with
    | zero =>
      intro i hd hi
      rw [List.drop_eq_nil_of_le (by omega)]
      rfl
    | succ d ih =>
      intro i hd hi
      have hlt : i < l.length := by omega
      rw [List.drop_eq_getElem_cons hlt, dup, h i hlt, Bool.false_or, show l.take i ++ [l[i]] = l.take (i + 1) from (List.take_succ_eq_append_getElem hlt).symm]
      exact ih (i + 1) (by omega) (by omega)
  simpa using this l.length 0 rfl (Nat.zero_le _)
theorem refRight_ord (s : S53) (h : rightS s) (hc : s.f0.length < 9223372036854775807) (ho : s.f1.length < 9223372036854775806) : ∀ (d i : Nat), d = s.f1.length - i → i ≤ s.f1.length → ∃ b, Ev (fun k => folkmootref15_Right.l1 k (i : Int) s.f0 s.f1 s.f2 s.f3.f0 s.f3.f1) b ∧
    (b = true → (∀ j (hj : j < s.f1.length), i ≤ j → FormL s.f1[j] ∧ memL s.f1[j] (s.f1.take j) = false) ∧ Rise s.f0 ∧ (1 ≤ s.f2 ∧ s.f2 ≤ (s.f1.length : Int) + 1) ∧ ident_Form.f s.f3.f0 s.f3.f1 = some true ∧ (0 ≤ s.f3.f1 ∧ s.f3.f1 < 16)) := by
  intro d
  induction d with
  | zero =>
    intro i hd hi
    obtain ⟨b, hb, hr⟩ := rising_any s.f0 hc (s.f0.length - 1) 1 rfl (Nat.le_refl _)
    have e2 : wrap64 ((s.f1.length : Int) + 1) = (s.f1.length : Int) + 1 := by rw [wrap_nat (by omega)]; omega
    obtain ⟨v, hv, hw⟩ := view_any s.f3 h.2.2.2
    have start : ∀ r, Ev (fun k => if b = true then (if s.f2 ≥ 1 then (if s.f2 ≤ (s.f1.length : Int) + 1 then ((folkmootref04_Form.f s.f3.f0 s.f3.f1).bind fun t508 => (some t508)) else (some false)) else (some false)) else (some false)) r → Ev (fun k => folkmootref15_Right.l1 k (i : Int) s.f0 s.f1 s.f2 s.f3.f0 s.f3.f1) r := fun r hr2 => by
      refine Ev.step (fun k => by rw [folkmootref15_Right.l1, if_neg (by omega), e2]) (Ev.bind (show Ev (fun k => folkmootref15_Rising.f k s.f0) b from hb) hr2)
    cases b with
    | false => exact ⟨false, start _ (Ev.const fun _ => by simp), fun hx => by cases hx⟩
    | true =>
      by_cases c1 : s.f2 ≥ 1
      · by_cases c2 : s.f2 ≤ (s.f1.length : Int) + 1
        · refine ⟨v, start _ (Ev.const fun _ => by rw [if_pos rfl, if_pos c1, if_pos c2, hv]; rfl), fun hx => ⟨fun j hj hij => by omega, rise_adj fun j hj h1 => hr rfl j hj h1, ⟨c1, c2⟩, hw hx⟩⟩
        · exact ⟨false, start _ (Ev.const fun _ => by rw [if_pos rfl, if_pos c1, if_neg c2]), fun hx => by cases hx⟩
      · exact ⟨false, start _ (Ev.const fun _ => by rw [if_pos rfl, if_neg c1]), fun hx => by cases hx⟩
  | succ d ih =>
    intro i hd hi
    have hlt : i < s.f1.length := by omega
    have hrl := h.2.1.2 _ (List.getElem_mem hlt)
    obtain ⟨f, h1, h2⟩ := forms_alike s.f1[i] hrl
    obtain ⟨b, hb, hc2⟩ := ih (i + 1) (by omega) (by omega)
    have hin := refIn_ev (s.f1.take i) s.f1[i] (by rw [List.length_take]; omega)
    have start : ∀ r, Ev (fun k => if f = true then ((folkmootref05_In.f k (s.f1.take i) s.f1[i].f0.f0 s.f1[i].f0.f1 s.f1[i].f1 s.f1[i].f2).bind fun t516 => (if t516 = true then (some false) else (folkmootref15_Right.l1 k ((i + 1 : Nat) : Int) s.f0 s.f1 s.f2 s.f3.f0 s.f3.f1))) else (some false)) r → Ev (fun k => folkmootref15_Right.l1 k (i : Int) s.f0 s.f1 s.f2 s.f3.f0 s.f3.f1) r := fun r hr2 => by
      refine Ev.step (fun k => ?_) hr2
      rw [folkmootref15_Right.l1, if_pos (by omega), if_pos (by omega), rdL_nat hlt, h2, Option.bind_some, if_pos (show (i : Int) ≤ (s.f1.length : Int) by omega), Int.toNat_natCast, wrap_nat (by omega)]
    cases f with
    | false => exact ⟨false, start _ (Ev.const fun _ => by simp), fun hx => by cases hx⟩
    | true =>
      cases hm : memL s.f1[i] (s.f1.take i) with
      | true =>
        rw [hm] at hin
        refine ⟨false, start _ ?_, fun hx => by cases hx⟩
        simp only [if_true]
        refine Ev.bind hin ?_
        simp only [if_true]
        exact Ev.const fun _ => rfl
      | false =>
        rw [hm] at hin
        refine ⟨b, start _ ?_, fun hx => ?_⟩
        · simp only [if_true]
          refine Ev.bind hin ?_
          simp only [Bool.false_eq_true, if_false]
          exact hb
        · obtain ⟨g1, g2⟩ := hc2 hx
          refine ⟨fun j hj hij => ?_, g2⟩
          rcases Nat.lt_or_ge i j with hlt2 | hge
          · exact g1 j hj hlt2
          · have : j = i := by omega
            subst this
            exact ⟨form_of hrl h1, hm⟩
theorem refRight_con (s : S53) (h : rightS s) (hc : s.f0.length < 9223372036854775807) (ho : s.f1.length < 9223372036854775806) : ∀ (d i : Nat), d = s.f0.length - i → i ≤ s.f0.length → ∃ b, Ev (fun k => folkmootref15_Right.l0 k (i : Int) s.f0 s.f1 s.f2 s.f3.f0 s.f3.f1) b ∧
    (b = true → (∀ j (hj : j < s.f0.length), i ≤ j → FormL s.f0[j].f0 ∧ s.f0[j].f1.length ≤ 64) ∧ (∀ j (hj : j < s.f1.length), 0 ≤ j → FormL s.f1[j] ∧ memL s.f1[j] (s.f1.take j) = false) ∧ Rise s.f0 ∧ (1 ≤ s.f2 ∧ s.f2 ≤ (s.f1.length : Int) + 1) ∧ ident_Form.f s.f3.f0 s.f3.f1 = some true ∧ (0 ≤ s.f3.f1 ∧ s.f3.f1 < 16)) := by
  intro d
  induction d with
  | zero =>
    intro i hd hi
    obtain ⟨b, hb, hr⟩ := refRight_ord s h hc ho s.f1.length 0 rfl (Nat.zero_le _)
    exact ⟨b, Ev.step (fun k => by rw [folkmootref15_Right.l0, if_neg (by omega)]; rfl) hb, fun hx => ⟨fun j hj hij => by omega, hr hx⟩⟩
  | succ d ih =>
    intro i hd hi
    have hlt : i < s.f0.length := by omega
    have hre := h.1.2 _ (List.getElem_mem hlt)
    obtain ⟨f, h1, h2⟩ := form_any s.f0[i] hre
    obtain ⟨b, hb, hc2⟩ := ih (i + 1) (by omega) (by omega)
    have start : ∀ r, Ev (fun k => if f = true then (folkmootref15_Right.l0 k ((i + 1 : Nat) : Int) s.f0 s.f1 s.f2 s.f3.f0 s.f3.f1) else (some false)) r → Ev (fun k => folkmootref15_Right.l0 k (i : Int) s.f0 s.f1 s.f2 s.f3.f0 s.f3.f1) r := fun r hr2 => by
      refine Ev.step (fun k => ?_) hr2
      rw [folkmootref15_Right.l0, if_pos (by omega), if_pos (by omega), rdE_nat hlt, h1, Option.bind_some, wrap_nat (by omega)]
    cases f with
    | false => exact ⟨false, start _ (Ev.const fun _ => by simp), fun hx => by cases hx⟩
    | true =>
      refine ⟨b, start _ (by simp only [if_true]; exact hb), fun hx => ?_⟩
      obtain ⟨g1, g2⟩ := hc2 hx
      refine ⟨fun j hj hij => ?_, g2⟩
      rcases Nat.lt_or_ge i j with hlt2 | hge
      · exact g1 j hj hlt2
      · have : j = i := by omega
        subst this
        exact h2 rfl
theorem refRight_any (s : S53) (h : rightS s) : ∃ b, Ev (fun k => folkmootref15_Right.f k s.f0 s.f1 s.f2 s.f3.f0 s.f3.f1) b ∧ (b = true → RightS s) := by
  have z0 := rightEs_len h.1
  have z1 := rightLs_len h.2.1
  obtain ⟨b, hb, hr⟩ := refRight_con s h (by omega) (by omega) s.f0.length 0 rfl (Nat.zero_le _)
  refine ⟨b, hb, fun hx => ?_⟩
  obtain ⟨g1, g2, g3, g4, g5, g6⟩ := hr hx
  refine ⟨fun e he => ?_, g3, fun l hl => ?_, dup_each fun i hi => (g2 i hi (Nat.zero_le _)).2, g4, g5, u64_range h.2.2.2.1, g6⟩
  · obtain ⟨j, hj, rfl⟩ := List.getElem_of_mem he
    exact g1 j hj (Nat.zero_le _)
  · obtain ⟨j, hj, rfl⟩ := List.getElem_of_mem hl
    exact (g2 j hj (Nat.zero_le _)).1
end Go.Proofs.Ytioooiflpabngaa.PAll
end
section
namespace Go.Proofs.Ytioooiflpabngaa.PAll
open Go.RowKit Go.Proofs.YtioooiflpabngaaW.PrintWords Go.Proofs.YtioooiflpabngaaW.PrintLast Go.Proofs.YtioooiflpabngaaW.PrintMore
attribute [local go_sem] max2_int min2_int max_two min_two max_three min_three max_four min_four   -- for this text's walks alone
set_option linter.unusedVariables false
set_option linter.unusedSimpArgs false
attribute [local go_sem high] eqA25
def folkmootref15_Alike.f (k : Nat) (l0_0 : List (S32)) (l0_1 : List (S27)) (a0_2 : Int) (a0_3 : Int) (a0_4 : Int) (l1_0 : List (S32)) (l1_1 : List (S27)) (a1_2 : Int) (a1_3 : Int) (a1_4 : Int) : Option (Bool) := (folkmootref15_Same.f k l0_0 l1_0).bind fun t566 => (if t566 = true then ((folkmootref05_Same.f k l0_1 l1_1).bind fun t567 => (if t567 = true then (if a0_2 = a1_2 then (some (a0_3 == a1_3 && (a0_4 == a1_4))) else (some false)) else (some false))) else (some false))
set_option maxHeartbeats 8000000 in
set_option maxRecDepth 100000 in
theorem folkmootref15_Alike.calls (k : Nat) (A0_0 : Option Addr) (c0_0 : Nat) (l0_0 : List (S32)) (A0_1 : Option Addr) (c0_1 : Nat) (l0_1 : List (S27)) (a0_2 : Int) (a0_3 : Int) (a0_4 : Int) (A1_0 : Option Addr) (c1_0 : Nat) (l1_0 : List (S32)) (A1_1 : Option Addr) (c1_1 : Nat) (l1_1 : List (S27)) (a1_2 : Int) (a1_3 : Int) (a1_4 : Int) (r : Bool) (w : World) (hr0_0 : Kd.C k32 w A0_0 l0_0.length l0_0) (hc0_0 : l0_0.length ≤ c0_0) (hr0_1 : Kd.C k27 w A0_1 l0_1.length l0_1) (hc0_1 : l0_1.length ≤ c0_1) (hr1_0 : Kd.C k32 w A1_0 l1_0.length l1_0) (hc1_0 : l1_0.length ≤ c1_0) (hr1_1 : Kd.C k27 w A1_1 l1_1.length l1_1) (hc1_1 : l1_1.length ≤ c1_1) (h : folkmootref15_Alike.f k l0_0 l0_1 a0_2 a0_3 a0_4 l1_0 l1_1 a1_2 a1_3 a1_4 = some r) :
  Calls Try.prog 48 #[.agg #[.slice A0_0 l0_0.length c0_0, .slice A0_1 l0_1.length c0_1, .int .i64 a0_2, .int .u64 a0_3, .int .i64 a0_4], .agg #[.slice A1_0 l1_0.length c1_0, .slice A1_1 l1_1.length c1_1, .int .i64 a1_2, .int .u64 a1_3, .int .i64 a1_4]] w fun e w' => e = .returned (.bool r) ∧ Below w.heap.size w w' := by
 have hu53 := Try.underlying53
 have hu25 := Try.underlying25
 have HR0_0 := Aside0.mk hr0_0
 have HC0_0 := Aside0.mk hc0_0
 clear hr0_0 hc0_0
 have HR0_1 := Aside0.mk hr0_1
 have HC0_1 := Aside0.mk hc0_1
 clear hr0_1 hc0_1
 have HR1_0 := Aside0.mk hr1_0
 have HC1_0 := Aside0.mk hc1_0
 clear hr1_0 hc1_0
 have HR1_1 := Aside0.mk hr1_1
 have HC1_1 := Aside0.mk hc1_1
 clear hr1_1 hc1_1
 have HB := Aside0.mk (Below.refl w.heap.size w)
 have H : ((folkmootref15_Same.f k l0_0 l1_0).bind fun t566 => (if t566 = true then ((folkmootref05_Same.f k l0_1 l1_1).bind fun t567 => (if t567 = true then (if a0_2 = a1_2 then (some (a0_3 == a1_3 && (a0_4 == a1_4))) else (some false)) else (some false))) else (some false))) = some r := h
 clear h
 replace H := Option.bind_eq_some_iff.mp H
 obtain ⟨t566, A30, H⟩ := H
 replace H : (if t566 = true then ((folkmootref05_Same.f k l0_1 l1_1).bind fun t567 => (if t567 = true then (if a0_2 = a1_2 then (some (a0_3 == a1_3 && (a0_4 == a1_4))) else (some false)) else (some false))) else (some false)) = some r := H
 have A3 := Aside0.mk A30
 clear A30
 by_cases c4 : t566 = true
 ·
  subst c4
  have H1 : ((folkmootref05_Same.f k l0_1 l1_1).bind fun t567 => (if t567 = true then (if a0_2 = a1_2 then (some (a0_3 == a1_3 && (a0_4 == a1_4))) else (some false)) else (some false))) = some r := by rw [if_pos rfl] at H; exact H
  clear H
  have H := H1
  clear H1
  replace H := Option.bind_eq_some_iff.mp H
  obtain ⟨t567, A50, H⟩ := H
  replace H : (if t567 = true then (if a0_2 = a1_2 then (some (a0_3 == a1_3 && (a0_4 == a1_4))) else (some false)) else (some false)) = some r := H
  have A5 := Aside0.mk A50
  clear A50
  by_cases c6 : t567 = true
  ·
   subst c6
   have H1 : (if a0_2 = a1_2 then (some (a0_3 == a1_3 && (a0_4 == a1_4))) else (some false)) = some r := by rw [if_pos rfl] at H; exact H
   clear H
   have H := H1
   clear H1
   by_cases c7 : a0_2 = a1_2
   ·
    rw [if_pos c7] at H
    have c7b0 : (a0_2 == a1_2) = true := beq_iff_eq.mpr c7
    have c7b1 : (a0_2 != a1_2) = false := bne_eq_false_iff_eq.mpr c7
    clear c7
    obtain rfl := Option.some.inj H
    go_enter Try.func48, Try.ntmps48
    go_wp2_with (first | ((with_reducible refine gate_dst (N := 2) rfl ?_); refine box_event ?hg (N := 2) ?hd (cs := #[.slice A0_0 l0_0.length c0_0, .slice A0_1 l0_1.length c0_1, .int .i64 a0_2, .int .u64 a0_3, .int .i64 a0_4]) (t := 53) ?hr ?_; (case hd => rfl); (case hg => rfl); (case hr => first | (go_simp; done) | (go_simp; rfl)); intro gb564 hg w8 hbox hb; have n0_ := Aside0.mk (below_step zb_ hb); have n1_ := Aside0.mk (hbox); have n2_ := Aside0.mk ((by rw [hg]; exact (below_size zb_) : w.heap.size ≤ gb564)); have n3_ := Aside0.mk ((by rw [hg]; exact (below_size zb_) : w.heap.size ≤ gb564)); clear HB; have HB := n0_; have BK564 := n1_; have GW564 := n2_; have GE564 := n3_; clear n0_ n1_ n2_ n3_; clear hb hbox hg) | ((with_reducible refine gate_dst (N := 3) rfl ?_); refine box_event ?hg (N := 3) ?hd (cs := #[.slice A1_0 l1_0.length c1_0, .slice A1_1 l1_1.length c1_1, .int .i64 a1_2, .int .u64 a1_3, .int .i64 a1_4]) (t := 53) ?hr ?_; (case hd => rfl); (case hg => rfl); (case hr => first | (go_simp; done) | (go_simp; rfl)); intro gb565 hg w9 hbox hb; have n0_ := zk_ BK564 hb; have n1_ := Aside0.mk (below_step zb_ hb); have n2_ := Aside0.mk (hbox); have n3_ := Aside0.mk ((by rw [hg]; exact (below_size zb_) : w.heap.size ≤ gb565)); have n4_ := Aside0.mk ((by rw [hg]; exact (below_size zb_) : w.heap.size ≤ gb565)); have n5_ := Aside0.mk ((by rw [hg]; exact Nat.ne_of_lt (blk_lt (g := gb564) (o := .cells #[.slice A0_0 l0_0.length c0_0, .slice A0_1 l0_1.length c0_1, .int .i64 a0_2, .int .u64 a0_3, .int .i64 a0_4] 53 (0, 0)) (by (with_reducible repeat (first | refine blk_drewN ?_ _ | refine blk_drew ?_ | refine blk_alloc ?_ _)); exact BK564.out)) : gb564 ≠ gb565)); have n6_ := Aside0.mk ((by rw [hg]; exact Nat.ne_of_gt (blk_lt (g := gb564) (o := .cells #[.slice A0_0 l0_0.length c0_0, .slice A0_1 l0_1.length c0_1, .int .i64 a0_2, .int .u64 a0_3, .int .i64 a0_4] 53 (0, 0)) (by (with_reducible repeat (first | refine blk_drewN ?_ _ | refine blk_drew ?_ | refine blk_alloc ?_ _)); exact BK564.out)) : gb565 ≠ gb564)); clear BK564; clear HB; have BK564 := n0_; have HB := n1_; have BK565 := n2_; have GW565 := n3_; have GE565 := n4_; have NB564_565 := n5_; have NB565_564 := n6_; clear n0_ n1_ n2_ n3_ n4_ n5_ n6_; clear hb hbox hg; have hnb10 := NB564_565.out; have hnc10 := NB565_564.out; have hcz11_0 : w9.cell? ⟨gb564, 0, none⟩ = some (.slice A0_0 l0_0.length c0_0) := (blk_cell BK564.out 0).trans rfl; have hcz11_1 : w9.cell? ⟨gb564, 1, none⟩ = some (.slice A0_1 l0_1.length c0_1) := (blk_cell BK564.out 1).trans rfl; have hcz11_2 : w9.cell? ⟨gb564, 2, none⟩ = some (.int .i64 a0_2) := (blk_cell BK564.out 2).trans rfl; have hcz11_3 : w9.cell? ⟨gb564, 3, none⟩ = some (.int .u64 a0_3) := (blk_cell BK564.out 3).trans rfl; have hcz11_4 : w9.cell? ⟨gb564, 4, none⟩ = some (.int .i64 a0_4) := (blk_cell BK564.out 4).trans rfl; have hfz11_0 := blk_frozen BK564.out 0; have hfz11_1 := blk_frozen BK564.out 1; have hfz11_2 := blk_frozen BK564.out 2; have hfz11_3 := blk_frozen BK564.out 3; have hfz11_4 := blk_frozen BK564.out 4; have hcz12_0 : w9.cell? ⟨gb565, 0, none⟩ = some (.slice A1_0 l1_0.length c1_0) := (blk_cell BK565.out 0).trans rfl; have hcz12_1 : w9.cell? ⟨gb565, 1, none⟩ = some (.slice A1_1 l1_1.length c1_1) := (blk_cell BK565.out 1).trans rfl; have hcz12_2 : w9.cell? ⟨gb565, 2, none⟩ = some (.int .i64 a1_2) := (blk_cell BK565.out 2).trans rfl; have hcz12_3 : w9.cell? ⟨gb565, 3, none⟩ = some (.int .u64 a1_3) := (blk_cell BK565.out 3).trans rfl; have hcz12_4 : w9.cell? ⟨gb565, 4, none⟩ = some (.int .i64 a1_4) := (blk_cell BK565.out 4).trans rfl; have hfz12_0 := blk_frozen BK565.out 0; have hfz12_1 := blk_frozen BK565.out 1; have hfz12_2 := blk_frozen BK565.out 2; have hfz12_3 := blk_frozen BK565.out 3; have hfz12_4 := blk_frozen BK565.out 4) | ((with_reducible refine gate_callee (f := 27) rfl ?_); refine goesL_ (some 9) rfl rfl Try.func27 (by kernel_rfl) rfl #[.slice A0_0 l0_0.length c0_0, .slice A1_0 l1_0.length c1_0] rfl za_ ?_; (with_reducible refine (folkmootref15_Same.calls k _ _ l0_0 _ _ l1_0 true _ ?side1 ?side2 ?side3 ?side4 A3.out).mono ?_); (case side1 => exact zc_ HR0_0 HB); (case side2 => exact HC0_0.out); (case side3 => exact zc_ HR1_0 HB); (case side4 => exact HC1_0.out); rintro e w' ⟨rfl, ⟨nd, rfl⟩⟩; refine ⟨_, rfl, ?_⟩) | (go_at_call 30; (with_reducible refine (folkmootref05_Same.calls k _ _ l0_1 _ _ l1_1 true _ ?side1 ?side2 ?side3 ?side4 A5.out).mono ?_); (case side1 => repeat (first | exact (Kd.C_below HR0_1.out zb_) | (with_reducible refine Kd.C_alloc ?_ _) | (with_reducible refine Kd.C_drewN ?_ _) | (with_reducible refine Kd.C_drew ?_))); (case side2 => exact HC0_1.out); (case side3 => repeat (first | exact (Kd.C_below HR1_1.out zb_) | (with_reducible refine Kd.C_alloc ?_ _) | (with_reducible refine Kd.C_drewN ?_ _) | (with_reducible refine Kd.C_drew ?_))); (case side4 => exact HC1_1.out); rintro e w' ⟨rfl, ⟨nd, rfl⟩⟩))
    go_ret
    exact ⟨by first | rfl | (simp [errW_none, errW_some] <;> rfl) | (simp [*, errW_none, errW_some] <;> rfl), by repeat (first | (with_reducible first | exact HB.out | apply below_alloc | apply pw_below_drewN | apply below_drew1 | refine below_set ?_ GE564.out | refine below_set ?_ GE565.out) | exact HB.out)⟩
   ·
    rw [if_neg c7] at H
    have c7b0 : (a0_2 == a1_2) = false := beq_eq_false_iff_ne.mpr c7
    have c7b1 : (a0_2 != a1_2) = true := bne_iff_ne.mpr c7
    obtain rfl := Option.some.inj H
    go_enter Try.func48, Try.ntmps48
    go_wp2_with (first | ((with_reducible refine gate_dst (N := 2) rfl ?_); refine box_event ?hg (N := 2) ?hd (cs := #[.slice A0_0 l0_0.length c0_0, .slice A0_1 l0_1.length c0_1, .int .i64 a0_2, .int .u64 a0_3, .int .i64 a0_4]) (t := 53) ?hr ?_; (case hd => rfl); (case hg => rfl); (case hr => first | (go_simp; done) | (go_simp; rfl)); intro gb564 hg w13 hbox hb; have n0_ := Aside0.mk (below_step zb_ hb); have n1_ := Aside0.mk (hbox); have n2_ := Aside0.mk ((by rw [hg]; exact (below_size zb_) : w.heap.size ≤ gb564)); have n3_ := Aside0.mk ((by rw [hg]; exact (below_size zb_) : w.heap.size ≤ gb564)); clear HB; have HB := n0_; have BK564 := n1_; have GW564 := n2_; have GE564 := n3_; clear n0_ n1_ n2_ n3_; clear hb hbox hg) | ((with_reducible refine gate_dst (N := 3) rfl ?_); refine box_event ?hg (N := 3) ?hd (cs := #[.slice A1_0 l1_0.length c1_0, .slice A1_1 l1_1.length c1_1, .int .i64 a1_2, .int .u64 a1_3, .int .i64 a1_4]) (t := 53) ?hr ?_; (case hd => rfl); (case hg => rfl); (case hr => first | (go_simp; done) | (go_simp; rfl)); intro gb565 hg w14 hbox hb; have n0_ := zk_ BK564 hb; have n1_ := Aside0.mk (below_step zb_ hb); have n2_ := Aside0.mk (hbox); have n3_ := Aside0.mk ((by rw [hg]; exact (below_size zb_) : w.heap.size ≤ gb565)); have n4_ := Aside0.mk ((by rw [hg]; exact (below_size zb_) : w.heap.size ≤ gb565)); have n5_ := Aside0.mk ((by rw [hg]; exact Nat.ne_of_lt (blk_lt (g := gb564) (o := .cells #[.slice A0_0 l0_0.length c0_0, .slice A0_1 l0_1.length c0_1, .int .i64 a0_2, .int .u64 a0_3, .int .i64 a0_4] 53 (0, 0)) (by (with_reducible repeat (first | refine blk_drewN ?_ _ | refine blk_drew ?_ | refine blk_alloc ?_ _)); exact BK564.out)) : gb564 ≠ gb565)); have n6_ := Aside0.mk ((by rw [hg]; exact Nat.ne_of_gt (blk_lt (g := gb564) (o := .cells #[.slice A0_0 l0_0.length c0_0, .slice A0_1 l0_1.length c0_1, .int .i64 a0_2, .int .u64 a0_3, .int .i64 a0_4] 53 (0, 0)) (by (with_reducible repeat (first | refine blk_drewN ?_ _ | refine blk_drew ?_ | refine blk_alloc ?_ _)); exact BK564.out)) : gb565 ≠ gb564)); clear BK564; clear HB; have BK564 := n0_; have HB := n1_; have BK565 := n2_; have GW565 := n3_; have GE565 := n4_; have NB564_565 := n5_; have NB565_564 := n6_; clear n0_ n1_ n2_ n3_ n4_ n5_ n6_; clear hb hbox hg; have hnb15 := NB564_565.out; have hnc15 := NB565_564.out; have hcz16_0 : w14.cell? ⟨gb564, 0, none⟩ = some (.slice A0_0 l0_0.length c0_0) := (blk_cell BK564.out 0).trans rfl; have hcz16_1 : w14.cell? ⟨gb564, 1, none⟩ = some (.slice A0_1 l0_1.length c0_1) := (blk_cell BK564.out 1).trans rfl; have hcz16_2 : w14.cell? ⟨gb564, 2, none⟩ = some (.int .i64 a0_2) := (blk_cell BK564.out 2).trans rfl; have hcz16_3 : w14.cell? ⟨gb564, 3, none⟩ = some (.int .u64 a0_3) := (blk_cell BK564.out 3).trans rfl; have hcz16_4 : w14.cell? ⟨gb564, 4, none⟩ = some (.int .i64 a0_4) := (blk_cell BK564.out 4).trans rfl; have hfz16_0 := blk_frozen BK564.out 0; have hfz16_1 := blk_frozen BK564.out 1; have hfz16_2 := blk_frozen BK564.out 2; have hfz16_3 := blk_frozen BK564.out 3; have hfz16_4 := blk_frozen BK564.out 4; have hcz17_0 : w14.cell? ⟨gb565, 0, none⟩ = some (.slice A1_0 l1_0.length c1_0) := (blk_cell BK565.out 0).trans rfl; have hcz17_1 : w14.cell? ⟨gb565, 1, none⟩ = some (.slice A1_1 l1_1.length c1_1) := (blk_cell BK565.out 1).trans rfl; have hcz17_2 : w14.cell? ⟨gb565, 2, none⟩ = some (.int .i64 a1_2) := (blk_cell BK565.out 2).trans rfl; have hcz17_3 : w14.cell? ⟨gb565, 3, none⟩ = some (.int .u64 a1_3) := (blk_cell BK565.out 3).trans rfl; have hcz17_4 : w14.cell? ⟨gb565, 4, none⟩ = some (.int .i64 a1_4) := (blk_cell BK565.out 4).trans rfl; have hfz17_0 := blk_frozen BK565.out 0; have hfz17_1 := blk_frozen BK565.out 1; have hfz17_2 := blk_frozen BK565.out 2; have hfz17_3 := blk_frozen BK565.out 3; have hfz17_4 := blk_frozen BK565.out 4) | ((with_reducible refine gate_callee (f := 27) rfl ?_); refine goesL_ (some 9) rfl rfl Try.func27 (by kernel_rfl) rfl #[.slice A0_0 l0_0.length c0_0, .slice A1_0 l1_0.length c1_0] rfl za_ ?_; (with_reducible refine (folkmootref15_Same.calls k _ _ l0_0 _ _ l1_0 true _ ?side1 ?side2 ?side3 ?side4 A3.out).mono ?_); (case side1 => exact zc_ HR0_0 HB); (case side2 => exact HC0_0.out); (case side3 => exact zc_ HR1_0 HB); (case side4 => exact HC1_0.out); rintro e w' ⟨rfl, ⟨nd, rfl⟩⟩; refine ⟨_, rfl, ?_⟩) | (go_at_call 30; (with_reducible refine (folkmootref05_Same.calls k _ _ l0_1 _ _ l1_1 true _ ?side1 ?side2 ?side3 ?side4 A5.out).mono ?_); (case side1 => repeat (first | exact (Kd.C_below HR0_1.out zb_) | (with_reducible refine Kd.C_alloc ?_ _) | (with_reducible refine Kd.C_drewN ?_ _) | (with_reducible refine Kd.C_drew ?_))); (case side2 => exact HC0_1.out); (case side3 => repeat (first | exact (Kd.C_below HR1_1.out zb_) | (with_reducible refine Kd.C_alloc ?_ _) | (with_reducible refine Kd.C_drewN ?_ _) | (with_reducible refine Kd.C_drew ?_))); (case side4 => exact HC1_1.out); rintro e w' ⟨rfl, ⟨nd, rfl⟩⟩))
    go_ret
    exact ⟨by first | rfl | (simp [errW_none, errW_some] <;> rfl) | (simp [*, errW_none, errW_some] <;> rfl), by repeat (first | (with_reducible first | exact HB.out | apply below_alloc | apply pw_below_drewN | apply below_drew1 | refine below_set ?_ GE564.out | refine below_set ?_ GE565.out) | exact HB.out)⟩
  ·
   replace c6 := Bool.eq_false_iff.mpr c6
   subst c6
   have H1 : (some false) = some r := by rw [if_neg (show ¬ (false = true) by decide)] at H; exact H
   clear H
   have H := H1
   clear H1
   obtain rfl := Option.some.inj H
   go_enter Try.func48, Try.ntmps48
   go_wp2_with (first | ((with_reducible refine gate_dst (N := 2) rfl ?_); refine box_event ?hg (N := 2) ?hd (cs := #[.slice A0_0 l0_0.length c0_0, .slice A0_1 l0_1.length c0_1, .int .i64 a0_2, .int .u64 a0_3, .int .i64 a0_4]) (t := 53) ?hr ?_; (case hd => rfl); (case hg => rfl); (case hr => first | (go_simp; done) | (go_simp; rfl)); intro gb564 hg w18 hbox hb; have n0_ := Aside0.mk (below_step zb_ hb); have n1_ := Aside0.mk (hbox); have n2_ := Aside0.mk ((by rw [hg]; exact (below_size zb_) : w.heap.size ≤ gb564)); have n3_ := Aside0.mk ((by rw [hg]; exact (below_size zb_) : w.heap.size ≤ gb564)); clear HB; have HB := n0_; have BK564 := n1_; have GW564 := n2_; have GE564 := n3_; clear n0_ n1_ n2_ n3_; clear hb hbox hg) | ((with_reducible refine gate_dst (N := 3) rfl ?_); refine box_event ?hg (N := 3) ?hd (cs := #[.slice A1_0 l1_0.length c1_0, .slice A1_1 l1_1.length c1_1, .int .i64 a1_2, .int .u64 a1_3, .int .i64 a1_4]) (t := 53) ?hr ?_; (case hd => rfl); (case hg => rfl); (case hr => first | (go_simp; done) | (go_simp; rfl)); intro gb565 hg w19 hbox hb; have n0_ := zk_ BK564 hb; have n1_ := Aside0.mk (below_step zb_ hb); have n2_ := Aside0.mk (hbox); have n3_ := Aside0.mk ((by rw [hg]; exact (below_size zb_) : w.heap.size ≤ gb565)); have n4_ := Aside0.mk ((by rw [hg]; exact (below_size zb_) : w.heap.size ≤ gb565)); have n5_ := Aside0.mk ((by rw [hg]; exact Nat.ne_of_lt (blk_lt (g := gb564) (o := .cells #[.slice A0_0 l0_0.length c0_0, .slice A0_1 l0_1.length c0_1, .int .i64 a0_2, .int .u64 a0_3, .int .i64 a0_4] 53 (0, 0)) (by (with_reducible repeat (first | refine blk_drewN ?_ _ | refine blk_drew ?_ | refine blk_alloc ?_ _)); exact BK564.out)) : gb564 ≠ gb565)); have n6_ := Aside0.mk ((by rw [hg]; exact Nat.ne_of_gt (blk_lt (g := gb564) (o := .cells #[.slice A0_0 l0_0.length c0_0, .slice A0_1 l0_1.length c0_1, .int .i64 a0_2, .int .u64 a0_3, .int .i64 a0_4] 53 (0, 0)) (by (with_reducible repeat (first | refine blk_drewN ?_ _ | refine blk_drew ?_ | refine blk_alloc ?_ _)); exact BK564.out)) : gb565 ≠ gb564)); clear BK564; clear HB; have BK564 := n0_; have HB := n1_; have BK565 := n2_; have GW565 := n3_; have GE565 := n4_; have NB564_565 := n5_; have NB565_564 := n6_; clear n0_ n1_ n2_ n3_ n4_ n5_ n6_; clear hb hbox hg; have hnb20 := NB564_565.out; have hnc20 := NB565_564.out; have hcz21_0 : w19.cell? ⟨gb564, 0, none⟩ = some (.slice A0_0 l0_0.length c0_0) := (blk_cell BK564.out 0).trans rfl; have hcz21_1 : w19.cell? ⟨gb564, 1, none⟩ = some (.slice A0_1 l0_1.length c0_1) := (blk_cell BK564.out 1).trans rfl; have hcz21_2 : w19.cell? ⟨gb564, 2, none⟩ = some (.int .i64 a0_2) := (blk_cell BK564.out 2).trans rfl; have hcz21_3 : w19.cell? ⟨gb564, 3, none⟩ = some (.int .u64 a0_3) := (blk_cell BK564.out 3).trans rfl; have hcz21_4 : w19.cell? ⟨gb564, 4, none⟩ = some (.int .i64 a0_4) := (blk_cell BK564.out 4).trans rfl; have hfz21_0 := blk_frozen BK564.out 0; have hfz21_1 := blk_frozen BK564.out 1; have hfz21_2 := blk_frozen BK564.out 2; have hfz21_3 := blk_frozen BK564.out 3; have hfz21_4 := blk_frozen BK564.out 4; have hcz22_0 : w19.cell? ⟨gb565, 0, none⟩ = some (.slice A1_0 l1_0.length c1_0) := (blk_cell BK565.out 0).trans rfl; have hcz22_1 : w19.cell? ⟨gb565, 1, none⟩ = some (.slice A1_1 l1_1.length c1_1) := (blk_cell BK565.out 1).trans rfl; have hcz22_2 : w19.cell? ⟨gb565, 2, none⟩ = some (.int .i64 a1_2) := (blk_cell BK565.out 2).trans rfl; have hcz22_3 : w19.cell? ⟨gb565, 3, none⟩ = some (.int .u64 a1_3) := (blk_cell BK565.out 3).trans rfl; have hcz22_4 : w19.cell? ⟨gb565, 4, none⟩ = some (.int .i64 a1_4) := (blk_cell BK565.out 4).trans rfl; have hfz22_0 := blk_frozen BK565.out 0; have hfz22_1 := blk_frozen BK565.out 1; have hfz22_2 := blk_frozen BK565.out 2; have hfz22_3 := blk_frozen BK565.out 3; have hfz22_4 := blk_frozen BK565.out 4) | ((with_reducible refine gate_callee (f := 27) rfl ?_); refine goesL_ (some 9) rfl rfl Try.func27 (by kernel_rfl) rfl #[.slice A0_0 l0_0.length c0_0, .slice A1_0 l1_0.length c1_0] rfl za_ ?_; (with_reducible refine (folkmootref15_Same.calls k _ _ l0_0 _ _ l1_0 true _ ?side1 ?side2 ?side3 ?side4 A3.out).mono ?_); (case side1 => exact zc_ HR0_0 HB); (case side2 => exact HC0_0.out); (case side3 => exact zc_ HR1_0 HB); (case side4 => exact HC1_0.out); rintro e w' ⟨rfl, ⟨nd, rfl⟩⟩; refine ⟨_, rfl, ?_⟩) | (go_at_call 30; (with_reducible refine (folkmootref05_Same.calls k _ _ l0_1 _ _ l1_1 false _ ?side1 ?side2 ?side3 ?side4 A5.out).mono ?_); (case side1 => repeat (first | exact (Kd.C_below HR0_1.out zb_) | (with_reducible refine Kd.C_alloc ?_ _) | (with_reducible refine Kd.C_drewN ?_ _) | (with_reducible refine Kd.C_drew ?_))); (case side2 => exact HC0_1.out); (case side3 => repeat (first | exact (Kd.C_below HR1_1.out zb_) | (with_reducible refine Kd.C_alloc ?_ _) | (with_reducible refine Kd.C_drewN ?_ _) | (with_reducible refine Kd.C_drew ?_))); (case side4 => exact HC1_1.out); rintro e w' ⟨rfl, ⟨nd, rfl⟩⟩))
   go_ret
   exact ⟨by first | rfl | (simp [errW_none, errW_some] <;> rfl) | (simp [*, errW_none, errW_some] <;> rfl), by repeat (first | (with_reducible first | exact HB.out | apply below_alloc | apply pw_below_drewN | apply below_drew1 | refine below_set ?_ GE564.out | refine below_set ?_ GE565.out) | exact HB.out)⟩
 ·
  replace c4 := Bool.eq_false_iff.mpr c4
  subst c4
  have H1 : (some false) = some r := by rw [if_neg (show ¬ (false = true) by decide)] at H; exact H
  clear H
  have H := H1
  clear H1
  obtain rfl := Option.some.inj H
  go_enter Try.func48, Try.ntmps48
  go_wp2_with (first | ((with_reducible refine gate_dst (N := 2) rfl ?_); refine box_event ?hg (N := 2) ?hd (cs := #[.slice A0_0 l0_0.length c0_0, .slice A0_1 l0_1.length c0_1, .int .i64 a0_2, .int .u64 a0_3, .int .i64 a0_4]) (t := 53) ?hr ?_; (case hd => rfl); (case hg => rfl); (case hr => first | (go_simp; done) | (go_simp; rfl)); intro gb564 hg w23 hbox hb; have n0_ := Aside0.mk (below_step zb_ hb); have n1_ := Aside0.mk (hbox); have n2_ := Aside0.mk ((by rw [hg]; exact (below_size zb_) : w.heap.size ≤ gb564)); have n3_ := Aside0.mk ((by rw [hg]; exact (below_size zb_) : w.heap.size ≤ gb564)); clear HB; have HB := n0_; have BK564 := n1_; have GW564 := n2_; have GE564 := n3_; clear n0_ n1_ n2_ n3_; clear hb hbox hg) | ((with_reducible refine gate_dst (N := 3) rfl ?_); refine box_event ?hg (N := 3) ?hd (cs := #[.slice A1_0 l1_0.length c1_0, .slice A1_1 l1_1.length c1_1, .int .i64 a1_2, .int .u64 a1_3, .int .i64 a1_4]) (t := 53) ?hr ?_; (case hd => rfl); (case hg => rfl); (case hr => first | (go_simp; done) | (go_simp; rfl)); intro gb565 hg w24 hbox hb; have n0_ := zk_ BK564 hb; have n1_ := Aside0.mk (below_step zb_ hb); have n2_ := Aside0.mk (hbox); have n3_ := Aside0.mk ((by rw [hg]; exact (below_size zb_) : w.heap.size ≤ gb565)); have n4_ := Aside0.mk ((by rw [hg]; exact (below_size zb_) : w.heap.size ≤ gb565)); have n5_ := Aside0.mk ((by rw [hg]; exact Nat.ne_of_lt (blk_lt (g := gb564) (o := .cells #[.slice A0_0 l0_0.length c0_0, .slice A0_1 l0_1.length c0_1, .int .i64 a0_2, .int .u64 a0_3, .int .i64 a0_4] 53 (0, 0)) (by (with_reducible repeat (first | refine blk_drewN ?_ _ | refine blk_drew ?_ | refine blk_alloc ?_ _)); exact BK564.out)) : gb564 ≠ gb565)); have n6_ := Aside0.mk ((by rw [hg]; exact Nat.ne_of_gt (blk_lt (g := gb564) (o := .cells #[.slice A0_0 l0_0.length c0_0, .slice A0_1 l0_1.length c0_1, .int .i64 a0_2, .int .u64 a0_3, .int .i64 a0_4] 53 (0, 0)) (by (with_reducible repeat (first | refine blk_drewN ?_ _ | refine blk_drew ?_ | refine blk_alloc ?_ _)); exact BK564.out)) : gb565 ≠ gb564)); clear BK564; clear HB; have BK564 := n0_; have HB := n1_; have BK565 := n2_; have GW565 := n3_; have GE565 := n4_; have NB564_565 := n5_; have NB565_564 := n6_; clear n0_ n1_ n2_ n3_ n4_ n5_ n6_; clear hb hbox hg; have hnb25 := NB564_565.out; have hnc25 := NB565_564.out; have hcz26_0 : w24.cell? ⟨gb564, 0, none⟩ = some (.slice A0_0 l0_0.length c0_0) := (blk_cell BK564.out 0).trans rfl; have hcz26_1 : w24.cell? ⟨gb564, 1, none⟩ = some (.slice A0_1 l0_1.length c0_1) := (blk_cell BK564.out 1).trans rfl; have hcz26_2 : w24.cell? ⟨gb564, 2, none⟩ = some (.int .i64 a0_2) := (blk_cell BK564.out 2).trans rfl; have hcz26_3 : w24.cell? ⟨gb564, 3, none⟩ = some (.int .u64 a0_3) := (blk_cell BK564.out 3).trans rfl; have hcz26_4 : w24.cell? ⟨gb564, 4, none⟩ = some (.int .i64 a0_4) := (blk_cell BK564.out 4).trans rfl; have hfz26_0 := blk_frozen BK564.out 0; have hfz26_1 := blk_frozen BK564.out 1; have hfz26_2 := blk_frozen BK564.out 2; have hfz26_3 := blk_frozen BK564.out 3; have hfz26_4 := blk_frozen BK564.out 4; have hcz27_0 : w24.cell? ⟨gb565, 0, none⟩ = some (.slice A1_0 l1_0.length c1_0) := (blk_cell BK565.out 0).trans rfl; have hcz27_1 : w24.cell? ⟨gb565, 1, none⟩ = some (.slice A1_1 l1_1.length c1_1) := (blk_cell BK565.out 1).trans rfl; have hcz27_2 : w24.cell? ⟨gb565, 2, none⟩ = some (.int .i64 a1_2) := (blk_cell BK565.out 2).trans rfl; have hcz27_3 : w24.cell? ⟨gb565, 3, none⟩ = some (.int .u64 a1_3) := (blk_cell BK565.out 3).trans rfl; have hcz27_4 : w24.cell? ⟨gb565, 4, none⟩ = some (.int .i64 a1_4) := (blk_cell BK565.out 4).trans rfl; have hfz27_0 := blk_frozen BK565.out 0; have hfz27_1 := blk_frozen BK565.out 1; have hfz27_2 := blk_frozen BK565.out 2; have hfz27_3 := blk_frozen BK565.out 3; have hfz27_4 := blk_frozen BK565.out 4) | ((with_reducible refine gate_callee (f := 27) rfl ?_); refine goesL_ (some 9) rfl rfl Try.func27 (by kernel_rfl) rfl #[.slice A0_0 l0_0.length c0_0, .slice A1_0 l1_0.length c1_0] rfl za_ ?_; (with_reducible refine (folkmootref15_Same.calls k _ _ l0_0 _ _ l1_0 false _ ?side1 ?side2 ?side3 ?side4 A3.out).mono ?_); (case side1 => exact zc_ HR0_0 HB); (case side2 => exact HC0_0.out); (case side3 => exact zc_ HR1_0 HB); (case side4 => exact HC1_0.out); rintro e w' ⟨rfl, ⟨nd, rfl⟩⟩; refine ⟨_, rfl, ?_⟩))
  go_ret
  exact ⟨by first | rfl | (simp [errW_none, errW_some] <;> rfl) | (simp [*, errW_none, errW_some] <;> rfl), by repeat (first | (with_reducible first | exact HB.out | apply below_alloc | apply pw_below_drewN | apply below_drew1 | refine below_set ?_ GE564.out | refine below_set ?_ GE565.out) | exact HB.out)⟩
end Go.Proofs.Ytioooiflpabngaa.PAll
end
section
namespace Go.Proofs.Ytioooiflpabngaa.PAll
open Go.RowKit Go.Proofs.YtioooiflpabngaaW.PrintWords Go.Proofs.YtioooiflpabngaaW.PrintLast Go.Proofs.YtioooiflpabngaaW.PrintMore
set_option linter.unusedVariables false
set_option linter.unusedSimpArgs false
def folkmootlaw15_awake.f : Option Bool := some true
theorem encodes_one : content_EncodeOne.f 20 1 0 1 0 [97] = some ([1, 1, 0, 1, 0, 1, 97], 0) := by kernel_rfl
theorem C_const (W : World) : Kd.C (Kd.int .u8) (W.alloc (.cells #[.int .u8 97] 5 (1, 2))) (some ⟨W.heap.size, 0, none⟩) [97].length [(97 : Int)] := by
  refine ⟨rfl, by decide, fun _ => ⟨_, rfl, fun j p hj => ?_⟩⟩
  match j, hj with
  | 0, hj =>
    simp at hj
    subst hj
    refine ⟨[.int .u8 97], rfl, rfl, fun i u hi => ?_⟩
    match i, hi with
    | 0, hi =>
      simp at hi
      subst hi
      show World.cell? _ ⟨W.heap.size, 0, none⟩ = _
      simp only [World.cell?]
      rw [heap_alloc_new]
      rfl
    | i + 1, hi => simp at hi
  | j + 1, hj => simp at hj
set_option maxHeartbeats 8000000 in
set_option maxRecDepth 100000 in
theorem folkmootlaw15_awake.calls (r : Bool) (w : World) (h : folkmootlaw15_awake.f = some r) :
    Calls Try.prog 22 #[] w fun e w' => e = .returned (.bool r) ∧ Below w.heap.size w w' := by
  have hu25 := Try.underlying25
  have hu27 := Try.underlying27
  have hu32 := Try.underlying32
  injection h with h
  subst h
  have kc := fun (w : World) (C : Array Value) (n c : Nat) => Lib.run_convert_bytes_const (P := Try.prog) w 30 5 C n c Try.underlying30 Try.underlying5
  have hs : ((strOfNums [1, 1, 0, 1, 0, 1, 97]).toList == ([1, 1, 0, 1, 0, 1, 97] : List UInt8)) = true := by kernel_rfl
  go_enter Try.func22, Try.ntmps22
  go_wp2_with (go_at_call 46; refine (content_EncodeOne.calls 20 1 0 1 0 _ 1 [97] _ _ _ (C_const w) (by decide) encodes_one).mono ?_; rintro e w' ⟨v, rfl, ho, hb⟩; have hcv := own_string (P := Try.prog) Try.underlying30 Try.underlying5 Try.underlying9 (Kd.own_of_R ho))
  go_ret
  exact ⟨rfl, below_step (below_alloc (Below.refl _ _) _) hb⟩
end Go.Proofs.Ytioooiflpabngaa.PAll
end
