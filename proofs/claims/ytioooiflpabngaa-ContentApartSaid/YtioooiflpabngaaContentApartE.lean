/- Parts: PAllx900, QContentApart, HJoined, RContentApart. -/
import Derived.Test.YtioooiflpabngaaContentApartB
import Derived.Test.YtioooiflpabngaaContentApartD
import Derived.Test.YtioooiflpabngaaRows
import Derived.ProofKit
import Derived.WalkKit
import Derived.OpenShut
import Derived.ShutString
import Derived.ChangeOld
import Derived.Below
import Derived.SizedLaws
set_option linter.unusedVariables false
set_option linter.unusedSimpArgs false
section
namespace Go.Proofs.Ytioooiflpabngaa.PAll
open Go.RowKit Go.Proofs.YtioooiflpabngaaW.PrintWords Go.Proofs.YtioooiflpabngaaW.PrintLast Go.Proofs.YtioooiflpabngaaW.PrintMore
attribute [local go_sem] max2_int min2_int max_two min_two max_three min_three max_four min_four   -- for this text's walks alone
set_option linter.unusedVariables false
set_option linter.unusedSimpArgs false
attribute [local go_sem high] eqA27
def folkmootlaw15_ContentApart.j0 : Nat → Bool → Int → Int → Int → Int → List Int → Int → Int → Int → Int → List Int → List (S32) → List (S27) → Int → Int → Int → List (S32) → List (S27) → Int → Int → Int → Option (Bool)
 | 0, _, _, _, _, _, _, _, _, _, _, _, _, _, _, _, _, _, _, _, _, _ => none
 | k + 1, x56, x263000, x263001, x263002, x263003, x263004, x264000, x264001, x264002, x264003, x264004, x265000, x265001, x265002, x265003, x265004, x266000, x266001, x266002, x266003, x266004 => if x56 = true then ((folkmootlaw15_awake.f).bind fun t271 => (some t271)) else ((content_EncodeOne.f k x263000 x263001 x263002 x263003 x263004).bind fun bt272 => ((content_EncodeOne.f k x264000 x264001 x264002 x264003 x264004).bind fun bt276 => ((content_EncodeAll.f k x265000 x265001 x265002 x265003 x265004).bind fun bt280 => ((content_EncodeAll.f k x266000 x266001 x266002 x266003 x266004).bind fun bt284 => (if bt272.2 = 0 then (if bt276.2 = 0 then (if bt280.2 = 0 then (if bt284.2 = 0 then (if (strOfNums bt272.1).toList = (strOfNums bt280.1).toList then (some false) else (if ((x263000 == x264000 && (x263001 == x264001)) && (x263002 == x264002 && (x263003 == x264003))) = true then (if (((strOfNums bt272.1).toList == (strOfNums bt276.1).toList) == ((strOfNums x263004).toList == (strOfNums x264004).toList)) = true then ((folkmootref15_Alike.f k x265000 x265001 x265002 x265003 x265004 x266000 x266001 x266002 x266003 x266004).bind fun t288 => (some (((strOfNums bt280.1).toList == (strOfNums bt284.1).toList) == t288))) else (some false)) else (if (((strOfNums bt272.1).toList == (strOfNums bt276.1).toList) == false) = true then ((folkmootref15_Alike.f k x265000 x265001 x265002 x265003 x265004 x266000 x266001 x266002 x266003 x266004).bind fun t289 => (some (((strOfNums bt280.1).toList == (strOfNums bt284.1).toList) == t289))) else (some false)))) else (some false)) else (some false)) else (some false)) else (some false))))))
def folkmootlaw15_ContentApart.f (k : Nat) (a0_0 : Int) (a0_1 : Int) (a0_2 : Int) (a0_3 : Int) (l0_4 : List Int) (a1_0 : Int) (a1_1 : Int) (a1_2 : Int) (a1_3 : Int) (l1_4 : List Int) (l2_0 : List (S32)) (l2_1 : List (S27)) (a2_2 : Int) (a2_3 : Int) (a2_4 : Int) (l3_0 : List (S32)) (l3_1 : List (S27)) (a3_2 : Int) (a3_3 : Int) (a3_4 : Int) : Option (Bool) := (folkmootlaw15_awake.f).bind fun t266 => (if t266 = true then (if (wrap64 ((wrap64 ((wrap64 ((l2_0.length : Int) + (l2_1.length : Int))) + (l3_0.length : Int))) + (l3_1.length : Int))) > 100 then (folkmootlaw15_ContentApart.j0 k true a0_0 a0_1 a0_2 a0_3 l0_4 a1_0 a1_1 a1_2 a1_3 l1_4 l2_0 l2_1 a2_2 a2_3 a2_4 l3_0 l3_1 a3_2 a3_3 a3_4) else ((folkmootref15_Form.f a0_0 a0_1 a0_2 a0_3 l0_4).bind fun t267 => (if t267 = true then ((folkmootref15_Form.f a1_0 a1_1 a1_2 a1_3 l1_4).bind fun t268 => (if t268 = true then ((folkmootref15_Right.f k l2_0 l2_1 a2_2 a2_3 a2_4).bind fun t269 => (if t269 = true then ((folkmootref15_Right.f k l3_0 l3_1 a3_2 a3_3 a3_4).bind fun t270 => (folkmootlaw15_ContentApart.j0 k (!t270) a0_0 a0_1 a0_2 a0_3 l0_4 a1_0 a1_1 a1_2 a1_3 l1_4 l2_0 l2_1 a2_2 a2_3 a2_4 l3_0 l3_1 a3_2 a3_3 a3_4)) else (folkmootlaw15_ContentApart.j0 k true a0_0 a0_1 a0_2 a0_3 l0_4 a1_0 a1_1 a1_2 a1_3 l1_4 l2_0 l2_1 a2_2 a2_3 a2_4 l3_0 l3_1 a3_2 a3_3 a3_4))) else (folkmootlaw15_ContentApart.j0 k true a0_0 a0_1 a0_2 a0_3 l0_4 a1_0 a1_1 a1_2 a1_3 l1_4 l2_0 l2_1 a2_2 a2_3 a2_4 l3_0 l3_1 a3_2 a3_3 a3_4))) else (folkmootlaw15_ContentApart.j0 k true a0_0 a0_1 a0_2 a0_3 l0_4 a1_0 a1_1 a1_2 a1_3 l1_4 l2_0 l2_1 a2_2 a2_3 a2_4 l3_0 l3_1 a3_2 a3_3 a3_4)))) else (folkmootlaw15_ContentApart.j0 k true a0_0 a0_1 a0_2 a0_3 l0_4 a1_0 a1_1 a1_2 a1_3 l1_4 l2_0 l2_1 a2_2 a2_3 a2_4 l3_0 l3_1 a3_2 a3_3 a3_4))
def folkmootlaw15_ContentApart.T9 : Bool × List (List Nat × List Nat) := (true, [([], []), ([0], [0]), ([], []), ([2], [2]), ([1, 3], [1, 3]), ([], []), ([5], [5]), ([], []), ([7], [7]), ([6, 8], [6, 8]), ([9], [9]), ([10], [10]), ([11, 10], [10, 11]), ([12, 10], [10, 12]), ([10], [10]), ([14, 10], [10, 14]), ([15, 10], [10, 15]), ([13, 16, 10], [10, 13, 16]), ([10, 17], [10, 17]), ([4, 18], [4, 18]), ([19, 10], [19]), ([20], [20]), ([21, 20], [20, 21]), ([20], [20]), ([23, 20], [20, 23]), ([22, 24, 20], [20, 22, 24]), ([20], [20]), ([20], [20]), ([26, 27, 20, 20], [20, 26, 27]), ([25, 28, 20], [20, 25, 28]), ([20, 29], [20, 29]), ([30, 28, 0, 1, 2, 3, 4, 5, 6, 7, 8, 9, 10, 11, 12, 13, 14, 15, 16, 17, 18, 19, 20, 21, 22, 23, 24, 25, 26, 27, 28, 29, 30], [30])])
def folkmootlaw15_ContentApart.B9 : List Nat := [0, 1, 0, 4, 15, 0, 32, 0, 128, 480, 992, 2016, 4064, 8160, 2016, 18400, 51168, 131040, 262112, 524287, 1048575, 2097151, 4194303, 2097151, 10485759, 33554431, 2097151, 2097151, 203423743, 536870911, 1073741823, 2147483647]
theorem folkmootlaw15_ContentApart.tab9 : rtab .any (opsOf Try.f12 9) = folkmootlaw15_ContentApart.T9 := by kernel_rfl
theorem folkmootlaw15_ContentApart.bits9 : waitsOk folkmootlaw15_ContentApart.T9.2 folkmootlaw15_ContentApart.B9 = true := by kernel_rfl
set_option maxHeartbeats 8000000 in
set_option maxRecDepth 100000 in
theorem folkmootlaw15_ContentApart.calls (k : Nat) (a0_0 : Int) (a0_1 : Int) (a0_2 : Int) (a0_3 : Int) (A0_4 : Option Addr) (c0_4 : Nat) (l0_4 : List Int) (a1_0 : Int) (a1_1 : Int) (a1_2 : Int) (a1_3 : Int) (A1_4 : Option Addr) (c1_4 : Nat) (l1_4 : List Int) (A2_0 : Option Addr) (c2_0 : Nat) (l2_0 : List (S32)) (A2_1 : Option Addr) (c2_1 : Nat) (l2_1 : List (S27)) (a2_2 : Int) (a2_3 : Int) (a2_4 : Int) (A3_0 : Option Addr) (c3_0 : Nat) (l3_0 : List (S32)) (A3_1 : Option Addr) (c3_1 : Nat) (l3_1 : List (S27)) (a3_2 : Int) (a3_3 : Int) (a3_4 : Int) (r : Bool) (w : World) (hr0_4 : Kd.C (Kd.int .u8) w A0_4 l0_4.length l0_4) (hc0_4 : l0_4.length ≤ c0_4) (hr1_4 : Kd.C (Kd.int .u8) w A1_4 l1_4.length l1_4) (hc1_4 : l1_4.length ≤ c1_4) (hr2_0 : Kd.C k32 w A2_0 l2_0.length l2_0) (hc2_0 : l2_0.length ≤ c2_0) (hr2_1 : Kd.C k27 w A2_1 l2_1.length l2_1) (hc2_1 : l2_1.length ≤ c2_1) (hr3_0 : Kd.C k32 w A3_0 l3_0.length l3_0) (hc3_0 : l3_0.length ≤ c3_0) (hr3_1 : Kd.C k27 w A3_1 l3_1.length l3_1) (hc3_1 : l3_1.length ≤ c3_1) (h : folkmootlaw15_ContentApart.f k a0_0 a0_1 a0_2 a0_3 l0_4 a1_0 a1_1 a1_2 a1_3 l1_4 l2_0 l2_1 a2_2 a2_3 a2_4 l3_0 l3_1 a3_2 a3_3 a3_4 = some r) :
  Calls Try.prog 12 #[.agg #[.int .u64 a0_0, .int .i64 a0_1, .int .u64 a0_2, .int .i64 a0_3, .slice A0_4 l0_4.length c0_4], .agg #[.int .u64 a1_0, .int .i64 a1_1, .int .u64 a1_2, .int .i64 a1_3, .slice A1_4 l1_4.length c1_4], .agg #[.slice A2_0 l2_0.length c2_0, .slice A2_1 l2_1.length c2_1, .int .i64 a2_2, .int .u64 a2_3, .int .i64 a2_4], .agg #[.slice A3_0 l3_0.length c3_0, .slice A3_1 l3_1.length c3_1, .int .i64 a3_2, .int .u64 a3_3, .int .i64 a3_4]] w fun e w' => e = .returned (.bool r) ∧ Below w.heap.size w w' := by
 have hu32 := Try.underlying32
 have hu53 := Try.underlying53
 have hu27 := Try.underlying27
 have HR0_4 := Aside0.mk hr0_4
 have HC0_4 := Aside0.mk hc0_4
 clear hr0_4 hc0_4
 have HR1_4 := Aside0.mk hr1_4
 have HC1_4 := Aside0.mk hc1_4
 clear hr1_4 hc1_4
 have HR2_0 := Aside0.mk hr2_0
 have HC2_0 := Aside0.mk hc2_0
 clear hr2_0 hc2_0
 have HR2_1 := Aside0.mk hr2_1
 have HC2_1 := Aside0.mk hc2_1
 clear hr2_1 hc2_1
 have HR3_0 := Aside0.mk hr3_0
 have HC3_0 := Aside0.mk hc3_0
 clear hr3_0 hc3_0
 have HR3_1 := Aside0.mk hr3_1
 have HC3_1 := Aside0.mk hc3_1
 clear hr3_1 hc3_1
 have HB := Aside0.mk (Below.refl w.heap.size w)
 have H : ((folkmootlaw15_awake.f).bind fun t266 => (if t266 = true then (if (wrap64 ((wrap64 ((wrap64 ((l2_0.length : Int) + (l2_1.length : Int))) + (l3_0.length : Int))) + (l3_1.length : Int))) > 100 then (folkmootlaw15_ContentApart.j0 k true a0_0 a0_1 a0_2 a0_3 l0_4 a1_0 a1_1 a1_2 a1_3 l1_4 l2_0 l2_1 a2_2 a2_3 a2_4 l3_0 l3_1 a3_2 a3_3 a3_4) else ((folkmootref15_Form.f a0_0 a0_1 a0_2 a0_3 l0_4).bind fun t267 => (if t267 = true then ((folkmootref15_Form.f a1_0 a1_1 a1_2 a1_3 l1_4).bind fun t268 => (if t268 = true then ((folkmootref15_Right.f k l2_0 l2_1 a2_2 a2_3 a2_4).bind fun t269 => (if t269 = true then ((folkmootref15_Right.f k l3_0 l3_1 a3_2 a3_3 a3_4).bind fun t270 => (folkmootlaw15_ContentApart.j0 k (!t270) a0_0 a0_1 a0_2 a0_3 l0_4 a1_0 a1_1 a1_2 a1_3 l1_4 l2_0 l2_1 a2_2 a2_3 a2_4 l3_0 l3_1 a3_2 a3_3 a3_4)) else (folkmootlaw15_ContentApart.j0 k true a0_0 a0_1 a0_2 a0_3 l0_4 a1_0 a1_1 a1_2 a1_3 l1_4 l2_0 l2_1 a2_2 a2_3 a2_4 l3_0 l3_1 a3_2 a3_3 a3_4))) else (folkmootlaw15_ContentApart.j0 k true a0_0 a0_1 a0_2 a0_3 l0_4 a1_0 a1_1 a1_2 a1_3 l1_4 l2_0 l2_1 a2_2 a2_3 a2_4 l3_0 l3_1 a3_2 a3_3 a3_4))) else (folkmootlaw15_ContentApart.j0 k true a0_0 a0_1 a0_2 a0_3 l0_4 a1_0 a1_1 a1_2 a1_3 l1_4 l2_0 l2_1 a2_2 a2_3 a2_4 l3_0 l3_1 a3_2 a3_3 a3_4)))) else (folkmootlaw15_ContentApart.j0 k true a0_0 a0_1 a0_2 a0_3 l0_4 a1_0 a1_1 a1_2 a1_3 l1_4 l2_0 l2_1 a2_2 a2_3 a2_4 l3_0 l3_1 a3_2 a3_3 a3_4))) = some r := h
 clear h
 have HC5 := Aside0.mk H
 clear H
 go_enter Try.func12, Try.ntmps12
 go_upto_region 1 with (first | ((with_reducible refine gate_dst (N := 4) rfl ?_); (try (refine gate_guard (by rfl) ?_; dsimp only)); refine box_event ?hg (N := 4) ?hd (cs := #[.int .u64 a0_0, .int .i64 a0_1, .int .u64 a0_2, .int .i64 a0_3, .slice A0_4 l0_4.length c0_4]) (t := 32) ?hr ?_; (case hd => rfl); (case hg => rfl); (case hr => first | (go_simp; done) | (go_simp; rfl)); intro gb262 hg w6 hbox hb; have n0_ := Aside0.mk (below_step zb_ hb); have n1_ := Aside0.mk (hbox); have n2_ := Aside0.mk ((by rw [hg]; exact (below_size zb_) : w.heap.size ≤ gb262)); have n3_ := Aside0.mk ((by rw [hg]; exact (below_size zb_) : w.heap.size ≤ gb262)); clear HB; have HB := n0_; have BK262 := n1_; have GW262 := n2_; have GE262 := n3_; clear n0_ n1_ n2_ n3_; clear hb hbox hg) | ((with_reducible refine gate_dst (N := 5) rfl ?_); (try (refine gate_guard (by rfl) ?_; dsimp only)); refine box_event ?hg (N := 5) ?hd (cs := #[.int .u64 a1_0, .int .i64 a1_1, .int .u64 a1_2, .int .i64 a1_3, .slice A1_4 l1_4.length c1_4]) (t := 32) ?hr ?_; (case hd => rfl); (case hg => rfl); (case hr => first | (go_simp; done) | (go_simp; rfl)); intro gb263 hg w7 hbox hb; have n0_ := zk_ BK262 hb; have n1_ := Aside0.mk (below_step zb_ hb); have n2_ := Aside0.mk (hbox); have n3_ := Aside0.mk ((by rw [hg]; exact (below_size zb_) : w.heap.size ≤ gb263)); have n4_ := Aside0.mk ((by rw [hg]; exact (below_size zb_) : w.heap.size ≤ gb263)); have n5_ := Aside0.mk ((by rw [hg]; exact Nat.ne_of_lt (blk_lt (g := gb262) (o := .cells #[.int .u64 a0_0, .int .i64 a0_1, .int .u64 a0_2, .int .i64 a0_3, .slice A0_4 l0_4.length c0_4] 32 (0, 0)) (by (with_reducible repeat (first | refine blk_drewN ?_ _ | refine blk_drew ?_ | refine blk_alloc ?_ _)); exact BK262.out)) : gb262 ≠ gb263)); have n6_ := Aside0.mk ((by rw [hg]; exact Nat.ne_of_gt (blk_lt (g := gb262) (o := .cells #[.int .u64 a0_0, .int .i64 a0_1, .int .u64 a0_2, .int .i64 a0_3, .slice A0_4 l0_4.length c0_4] 32 (0, 0)) (by (with_reducible repeat (first | refine blk_drewN ?_ _ | refine blk_drew ?_ | refine blk_alloc ?_ _)); exact BK262.out)) : gb263 ≠ gb262)); clear BK262; clear HB; have BK262 := n0_; have HB := n1_; have BK263 := n2_; have GW263 := n3_; have GE263 := n4_; have NB262_263 := n5_; have NB263_262 := n6_; clear n0_ n1_ n2_ n3_ n4_ n5_ n6_; clear hb hbox hg) | ((with_reducible refine gate_dst (N := 6) rfl ?_); (try (refine gate_guard (by rfl) ?_; dsimp only)); refine box_event ?hg (N := 6) ?hd (cs := #[.slice A2_0 l2_0.length c2_0, .slice A2_1 l2_1.length c2_1, .int .i64 a2_2, .int .u64 a2_3, .int .i64 a2_4]) (t := 53) ?hr ?_; (case hd => rfl); (case hg => rfl); (case hr => first | (go_simp; done) | (go_simp; rfl)); intro gb264 hg w8 hbox hb; have n0_ := zk_ BK262 hb; have n1_ := zk_ BK263 hb; have n2_ := Aside0.mk (below_step zb_ hb); have n3_ := Aside0.mk (hbox); have n4_ := Aside0.mk ((by rw [hg]; exact (below_size zb_) : w.heap.size ≤ gb264)); have n5_ := Aside0.mk ((by rw [hg]; exact (below_size zb_) : w.heap.size ≤ gb264)); have n6_ := Aside0.mk ((by rw [hg]; exact Nat.ne_of_lt (blk_lt (g := gb262) (o := .cells #[.int .u64 a0_0, .int .i64 a0_1, .int .u64 a0_2, .int .i64 a0_3, .slice A0_4 l0_4.length c0_4] 32 (0, 0)) (by (with_reducible repeat (first | refine blk_drewN ?_ _ | refine blk_drew ?_ | refine blk_alloc ?_ _)); exact BK262.out)) : gb262 ≠ gb264)); have n7_ := Aside0.mk ((by rw [hg]; exact Nat.ne_of_gt (blk_lt (g := gb262) (o := .cells #[.int .u64 a0_0, .int .i64 a0_1, .int .u64 a0_2, .int .i64 a0_3, .slice A0_4 l0_4.length c0_4] 32 (0, 0)) (by (with_reducible repeat (first | refine blk_drewN ?_ _ | refine blk_drew ?_ | refine blk_alloc ?_ _)); exact BK262.out)) : gb264 ≠ gb262)); have n8_ := Aside0.mk ((by rw [hg]; exact Nat.ne_of_lt (blk_lt (g := gb263) (o := .cells #[.int .u64 a1_0, .int .i64 a1_1, .int .u64 a1_2, .int .i64 a1_3, .slice A1_4 l1_4.length c1_4] 32 (0, 0)) (by (with_reducible repeat (first | refine blk_drewN ?_ _ | refine blk_drew ?_ | refine blk_alloc ?_ _)); exact BK263.out)) : gb263 ≠ gb264)); have n9_ := Aside0.mk ((by rw [hg]; exact Nat.ne_of_gt (blk_lt (g := gb263) (o := .cells #[.int .u64 a1_0, .int .i64 a1_1, .int .u64 a1_2, .int .i64 a1_3, .slice A1_4 l1_4.length c1_4] 32 (0, 0)) (by (with_reducible repeat (first | refine blk_drewN ?_ _ | refine blk_drew ?_ | refine blk_alloc ?_ _)); exact BK263.out)) : gb264 ≠ gb263)); clear BK262; clear BK263; clear HB; have BK262 := n0_; have BK263 := n1_; have HB := n2_; have BK264 := n3_; have GW264 := n4_; have GE264 := n5_; have NB262_264 := n6_; have NB264_262 := n7_; have NB263_264 := n8_; have NB264_263 := n9_; clear n0_ n1_ n2_ n3_ n4_ n5_ n6_ n7_ n8_ n9_; clear hb hbox hg) | ((with_reducible refine gate_dst (N := 7) rfl ?_); (try (refine gate_guard (by rfl) ?_; dsimp only)); refine box_event ?hg (N := 7) ?hd (cs := #[.slice A3_0 l3_0.length c3_0, .slice A3_1 l3_1.length c3_1, .int .i64 a3_2, .int .u64 a3_3, .int .i64 a3_4]) (t := 53) ?hr ?_; (case hd => rfl); (case hg => rfl); (case hr => first | (go_simp; done) | (go_simp; rfl)); intro gb265 hg w9 hbox hb; have n0_ := zk_ BK262 hb; have n1_ := zk_ BK263 hb; have n2_ := zk_ BK264 hb; have n3_ := Aside0.mk (below_step zb_ hb); have n4_ := Aside0.mk (hbox); have n5_ := Aside0.mk ((by rw [hg]; exact (below_size zb_) : w.heap.size ≤ gb265)); have n6_ := Aside0.mk ((by rw [hg]; exact (below_size zb_) : w.heap.size ≤ gb265)); have n7_ := Aside0.mk ((by rw [hg]; exact Nat.ne_of_lt (blk_lt (g := gb262) (o := .cells #[.int .u64 a0_0, .int .i64 a0_1, .int .u64 a0_2, .int .i64 a0_3, .slice A0_4 l0_4.length c0_4] 32 (0, 0)) (by (with_reducible repeat (first | refine blk_drewN ?_ _ | refine blk_drew ?_ | refine blk_alloc ?_ _)); exact BK262.out)) : gb262 ≠ gb265)); have n8_ := Aside0.mk ((by rw [hg]; exact Nat.ne_of_gt (blk_lt (g := gb262) (o := .cells #[.int .u64 a0_0, .int .i64 a0_1, .int .u64 a0_2, .int .i64 a0_3, .slice A0_4 l0_4.length c0_4] 32 (0, 0)) (by (with_reducible repeat (first | refine blk_drewN ?_ _ | refine blk_drew ?_ | refine blk_alloc ?_ _)); exact BK262.out)) : gb265 ≠ gb262)); have n9_ := Aside0.mk ((by rw [hg]; exact Nat.ne_of_lt (blk_lt (g := gb263) (o := .cells #[.int .u64 a1_0, .int .i64 a1_1, .int .u64 a1_2, .int .i64 a1_3, .slice A1_4 l1_4.length c1_4] 32 (0, 0)) (by (with_reducible repeat (first | refine blk_drewN ?_ _ | refine blk_drew ?_ | refine blk_alloc ?_ _)); exact BK263.out)) : gb263 ≠ gb265)); have n10_ := Aside0.mk ((by rw [hg]; exact Nat.ne_of_gt (blk_lt (g := gb263) (o := .cells #[.int .u64 a1_0, .int .i64 a1_1, .int .u64 a1_2, .int .i64 a1_3, .slice A1_4 l1_4.length c1_4] 32 (0, 0)) (by (with_reducible repeat (first | refine blk_drewN ?_ _ | refine blk_drew ?_ | refine blk_alloc ?_ _)); exact BK263.out)) : gb265 ≠ gb263)); have n11_ := Aside0.mk ((by rw [hg]; exact Nat.ne_of_lt (blk_lt (g := gb264) (o := .cells #[.slice A2_0 l2_0.length c2_0, .slice A2_1 l2_1.length c2_1, .int .i64 a2_2, .int .u64 a2_3, .int .i64 a2_4] 53 (0, 0)) (by (with_reducible repeat (first | refine blk_drewN ?_ _ | refine blk_drew ?_ | refine blk_alloc ?_ _)); exact BK264.out)) : gb264 ≠ gb265)); have n12_ := Aside0.mk ((by rw [hg]; exact Nat.ne_of_gt (blk_lt (g := gb264) (o := .cells #[.slice A2_0 l2_0.length c2_0, .slice A2_1 l2_1.length c2_1, .int .i64 a2_2, .int .u64 a2_3, .int .i64 a2_4] 53 (0, 0)) (by (with_reducible repeat (first | refine blk_drewN ?_ _ | refine blk_drew ?_ | refine blk_alloc ?_ _)); exact BK264.out)) : gb265 ≠ gb264)); clear BK262; clear BK263; clear BK264; clear HB; have BK262 := n0_; have BK263 := n1_; have BK264 := n2_; have HB := n3_; have BK265 := n4_; have GW265 := n5_; have GE265 := n6_; have NB262_265 := n7_; have NB265_262 := n8_; have NB263_265 := n9_; have NB265_263 := n10_; have NB264_265 := n11_; have NB265_264 := n12_; clear n0_ n1_ n2_ n3_ n4_ n5_ n6_ n7_ n8_ n9_ n10_ n11_ n12_; clear hb hbox hg))
 (try simp only [Act.put, List.setIfInBounds_toArray, List.set_cons_zero, List.set_cons_succ])
 go_cut [56] (fun v56 wc => ∃ (kq : Nat) (x56_4 : Bool), v56 = .bool x56_4 ∧ Aside0 (folkmootlaw15_ContentApart.j0 kq x56_4 a0_0 a0_1 a0_2 a0_3 l0_4 a1_0 a1_1 a1_2 a1_3 l1_4 l2_0 l2_1 a2_2 a2_3 a2_4 l3_0 l3_1 a3_2 a3_3 a3_4 = some r) ∧ Aside0 (kq ≤ k) ∧ Aside0 (wc.heap[gb262]? = some (.cells #[.int .u64 a0_0, .int .i64 a0_1, .int .u64 a0_2, .int .i64 a0_3, (.slice A0_4 l0_4.length c0_4)] 32 (0, 0))) ∧ Aside0 (wc.heap[gb263]? = some (.cells #[.int .u64 a1_0, .int .i64 a1_1, .int .u64 a1_2, .int .i64 a1_3, (.slice A1_4 l1_4.length c1_4)] 32 (0, 0))) ∧ Aside0 (wc.heap[gb264]? = some (.cells #[(.slice A2_0 l2_0.length c2_0), (.slice A2_1 l2_1.length c2_1), .int .i64 a2_2, .int .u64 a2_3, .int .i64 a2_4] 53 (0, 0))) ∧ Aside0 (wc.heap[gb265]? = some (.cells #[(.slice A3_0 l3_0.length c3_0), (.slice A3_1 l3_1.length c3_1), .int .i64 a3_2, .int .u64 a3_3, .int .i64 a3_4] 53 (0, 0))) ∧ Aside0 (Below w.heap.size w wc))
 case first =>
  have H := HC5.out
  clear HC5
  replace H := Option.bind_eq_some_iff.mp H
  obtain ⟨t266, A100, H⟩ := H
  replace H : (if t266 = true then (if (wrap64 ((wrap64 ((wrap64 ((l2_0.length : Int) + (l2_1.length : Int))) + (l3_0.length : Int))) + (l3_1.length : Int))) > 100 then (folkmootlaw15_ContentApart.j0 k true a0_0 a0_1 a0_2 a0_3 l0_4 a1_0 a1_1 a1_2 a1_3 l1_4 l2_0 l2_1 a2_2 a2_3 a2_4 l3_0 l3_1 a3_2 a3_3 a3_4) else ((folkmootref15_Form.f a0_0 a0_1 a0_2 a0_3 l0_4).bind fun t267 => (if t267 = true then ((folkmootref15_Form.f a1_0 a1_1 a1_2 a1_3 l1_4).bind fun t268 => (if t268 = true then ((folkmootref15_Right.f k l2_0 l2_1 a2_2 a2_3 a2_4).bind fun t269 => (if t269 = true then ((folkmootref15_Right.f k l3_0 l3_1 a3_2 a3_3 a3_4).bind fun t270 => (folkmootlaw15_ContentApart.j0 k (!t270) a0_0 a0_1 a0_2 a0_3 l0_4 a1_0 a1_1 a1_2 a1_3 l1_4 l2_0 l2_1 a2_2 a2_3 a2_4 l3_0 l3_1 a3_2 a3_3 a3_4)) else (folkmootlaw15_ContentApart.j0 k true a0_0 a0_1 a0_2 a0_3 l0_4 a1_0 a1_1 a1_2 a1_3 l1_4 l2_0 l2_1 a2_2 a2_3 a2_4 l3_0 l3_1 a3_2 a3_3 a3_4))) else (folkmootlaw15_ContentApart.j0 k true a0_0 a0_1 a0_2 a0_3 l0_4 a1_0 a1_1 a1_2 a1_3 l1_4 l2_0 l2_1 a2_2 a2_3 a2_4 l3_0 l3_1 a3_2 a3_3 a3_4))) else (folkmootlaw15_ContentApart.j0 k true a0_0 a0_1 a0_2 a0_3 l0_4 a1_0 a1_1 a1_2 a1_3 l1_4 l2_0 l2_1 a2_2 a2_3 a2_4 l3_0 l3_1 a3_2 a3_3 a3_4)))) else (folkmootlaw15_ContentApart.j0 k true a0_0 a0_1 a0_2 a0_3 l0_4 a1_0 a1_1 a1_2 a1_3 l1_4 l2_0 l2_1 a2_2 a2_3 a2_4 l3_0 l3_1 a3_2 a3_3 a3_4)) = some r := H
  have A10 := Aside0.mk A100
  clear A100
  by_cases c11 : t266 = true
  ·
   subst c11
   have H1 : (if (wrap64 ((wrap64 ((wrap64 ((l2_0.length : Int) + (l2_1.length : Int))) + (l3_0.length : Int))) + (l3_1.length : Int))) > 100 then (folkmootlaw15_ContentApart.j0 k true a0_0 a0_1 a0_2 a0_3 l0_4 a1_0 a1_1 a1_2 a1_3 l1_4 l2_0 l2_1 a2_2 a2_3 a2_4 l3_0 l3_1 a3_2 a3_3 a3_4) else ((folkmootref15_Form.f a0_0 a0_1 a0_2 a0_3 l0_4).bind fun t267 => (if t267 = true then ((folkmootref15_Form.f a1_0 a1_1 a1_2 a1_3 l1_4).bind fun t268 => (if t268 = true then ((folkmootref15_Right.f k l2_0 l2_1 a2_2 a2_3 a2_4).bind fun t269 => (if t269 = true then ((folkmootref15_Right.f k l3_0 l3_1 a3_2 a3_3 a3_4).bind fun t270 => (folkmootlaw15_ContentApart.j0 k (!t270) a0_0 a0_1 a0_2 a0_3 l0_4 a1_0 a1_1 a1_2 a1_3 l1_4 l2_0 l2_1 a2_2 a2_3 a2_4 l3_0 l3_1 a3_2 a3_3 a3_4)) else (folkmootlaw15_ContentApart.j0 k true a0_0 a0_1 a0_2 a0_3 l0_4 a1_0 a1_1 a1_2 a1_3 l1_4 l2_0 l2_1 a2_2 a2_3 a2_4 l3_0 l3_1 a3_2 a3_3 a3_4))) else (folkmootlaw15_ContentApart.j0 k true a0_0 a0_1 a0_2 a0_3 l0_4 a1_0 a1_1 a1_2 a1_3 l1_4 l2_0 l2_1 a2_2 a2_3 a2_4 l3_0 l3_1 a3_2 a3_3 a3_4))) else (folkmootlaw15_ContentApart.j0 k true a0_0 a0_1 a0_2 a0_3 l0_4 a1_0 a1_1 a1_2 a1_3 l1_4 l2_0 l2_1 a2_2 a2_3 a2_4 l3_0 l3_1 a3_2 a3_3 a3_4)))) = some r := by rw [if_pos rfl] at H; exact H
   clear H
   have H := H1
   clear H1
   by_cases c12 : (wrap64 ((wrap64 ((wrap64 ((l2_0.length : Int) + (l2_1.length : Int))) + (l3_0.length : Int))) + (l3_1.length : Int))) > 100
   ·
    rw [if_pos c12] at H
    have c12b0 : decide (100 < (wrap64 ((wrap64 ((wrap64 ((l2_0.length : Int) + (l2_1.length : Int))) + (l3_0.length : Int))) + (l3_1.length : Int)))) = true := decide_eq_true c12
    clear c12
    (first | rw [c12b0] | (simp only [i64_w, i32_w]; rw [c12b0]) | skip)
    have H' := Aside0.mk H
    clear H
    go_wp2_with (first | ((with_reducible refine gate_callee (f := 22) rfl ?_); refine goesL_ (some 17) rfl rfl Try.func22 (by kernel_rfl) rfl #[] rfl za_ ?_; (with_reducible refine (folkmootlaw15_awake.calls  true _ A10.out).mono ?_); rintro e w13 ⟨rfl, hb⟩; refine ⟨_, rfl, ?_⟩; have n0_ := zk_ BK262 hb; have n1_ := zk_ BK263 hb; have n2_ := zk_ BK264 hb; have n3_ := zk_ BK265 hb; have n4_ := Aside0.mk (below_step zb_ hb); clear BK262; clear BK263; clear BK264; clear BK265; clear HB; have BK262 := n0_; have BK263 := n1_; have BK264 := n2_; have BK265 := n3_; have HB := n4_; clear n0_ n1_ n2_ n3_ n4_; (try clear hb); (try clear hb2); (try clear hk); (try clear hi); have hnb14 := NB264_262.out; have hnc14 := NB262_264.out; have hnb15 := NB264_263.out; have hnc15 := NB263_264.out; have hnb16 := NB264_265.out; have hnc16 := NB265_264.out; have hcz17_0 : w13.cell? ⟨gb264, 0, none⟩ = some (.slice A2_0 l2_0.length c2_0) := (blk_cell BK264.out 0).trans rfl; have hcz17_1 : w13.cell? ⟨gb264, 1, none⟩ = some (.slice A2_1 l2_1.length c2_1) := (blk_cell BK264.out 1).trans rfl; have hcz17_2 : w13.cell? ⟨gb264, 2, none⟩ = some (.int .i64 a2_2) := (blk_cell BK264.out 2).trans rfl; have hcz17_3 : w13.cell? ⟨gb264, 3, none⟩ = some (.int .u64 a2_3) := (blk_cell BK264.out 3).trans rfl; have hcz17_4 : w13.cell? ⟨gb264, 4, none⟩ = some (.int .i64 a2_4) := (blk_cell BK264.out 4).trans rfl; have hfz17_0 := blk_frozen BK264.out 0; have hfz17_1 := blk_frozen BK264.out 1; have hfz17_2 := blk_frozen BK264.out 2; have hfz17_3 := blk_frozen BK264.out 3; have hfz17_4 := blk_frozen BK264.out 4; have hnb18 := NB265_262.out; have hnc18 := NB262_265.out; have hnb19 := NB265_263.out; have hnc19 := NB263_265.out; have hcz20_0 : w13.cell? ⟨gb265, 0, none⟩ = some (.slice A3_0 l3_0.length c3_0) := (blk_cell BK265.out 0).trans rfl; have hcz20_1 : w13.cell? ⟨gb265, 1, none⟩ = some (.slice A3_1 l3_1.length c3_1) := (blk_cell BK265.out 1).trans rfl; have hcz20_2 : w13.cell? ⟨gb265, 2, none⟩ = some (.int .i64 a3_2) := (blk_cell BK265.out 2).trans rfl; have hcz20_3 : w13.cell? ⟨gb265, 3, none⟩ = some (.int .u64 a3_3) := (blk_cell BK265.out 3).trans rfl; have hcz20_4 : w13.cell? ⟨gb265, 4, none⟩ = some (.int .i64 a3_4) := (blk_cell BK265.out 4).trans rfl; have hfz20_0 := blk_frozen BK265.out 0; have hfz20_1 := blk_frozen BK265.out 1; have hfz20_2 := blk_frozen BK265.out 2; have hfz20_3 := blk_frozen BK265.out 3; have hfz20_4 := blk_frozen BK265.out 4))
    go_meet
    case rel => exact ⟨_, (true), (by first | rfl | (simp; done) | (simp [*]; done)), H', ⟨by first | omega | exact Nat.le_refl _⟩, ⟨by (with_reducible repeat (first | refine blk_drewN ?_ _ | refine blk_drew ?_ | refine blk_alloc ?_ _)); exact BK262.out⟩, ⟨by (with_reducible repeat (first | refine blk_drewN ?_ _ | refine blk_drew ?_ | refine blk_alloc ?_ _)); exact BK263.out⟩, ⟨by (with_reducible repeat (first | refine blk_drewN ?_ _ | refine blk_drew ?_ | refine blk_alloc ?_ _)); exact BK264.out⟩, ⟨by (with_reducible repeat (first | refine blk_drewN ?_ _ | refine blk_drew ?_ | refine blk_alloc ?_ _)); exact BK265.out⟩, ⟨by repeat (first | (with_reducible first | exact HB.out | apply below_alloc | apply pw_below_drewN | apply below_drew1 | refine below_set ?_ GE262.out | refine below_set ?_ GE263.out | refine below_set ?_ GE264.out | refine below_set ?_ GE265.out) | exact HB.out)⟩⟩
   ·
    rw [if_neg c12] at H
    have c12b0 : decide (100 < (wrap64 ((wrap64 ((wrap64 ((l2_0.length : Int) + (l2_1.length : Int))) + (l3_0.length : Int))) + (l3_1.length : Int)))) = false := decide_eq_false c12
    clear c12
    (first | rw [c12b0] | (simp only [i64_w, i32_w]; rw [c12b0]) | skip)
    replace H := Option.bind_eq_some_iff.mp H
    obtain ⟨t267, A210, H⟩ := H
    replace H : (if t267 = true then ((folkmootref15_Form.f a1_0 a1_1 a1_2 a1_3 l1_4).bind fun t268 => (if t268 = true then ((folkmootref15_Right.f k l2_0 l2_1 a2_2 a2_3 a2_4).bind fun t269 => (if t269 = true then ((folkmootref15_Right.f k l3_0 l3_1 a3_2 a3_3 a3_4).bind fun t270 => (folkmootlaw15_ContentApart.j0 k (!t270) a0_0 a0_1 a0_2 a0_3 l0_4 a1_0 a1_1 a1_2 a1_3 l1_4 l2_0 l2_1 a2_2 a2_3 a2_4 l3_0 l3_1 a3_2 a3_3 a3_4)) else (folkmootlaw15_ContentApart.j0 k true a0_0 a0_1 a0_2 a0_3 l0_4 a1_0 a1_1 a1_2 a1_3 l1_4 l2_0 l2_1 a2_2 a2_3 a2_4 l3_0 l3_1 a3_2 a3_3 a3_4))) else (folkmootlaw15_ContentApart.j0 k true a0_0 a0_1 a0_2 a0_3 l0_4 a1_0 a1_1 a1_2 a1_3 l1_4 l2_0 l2_1 a2_2 a2_3 a2_4 l3_0 l3_1 a3_2 a3_3 a3_4))) else (folkmootlaw15_ContentApart.j0 k true a0_0 a0_1 a0_2 a0_3 l0_4 a1_0 a1_1 a1_2 a1_3 l1_4 l2_0 l2_1 a2_2 a2_3 a2_4 l3_0 l3_1 a3_2 a3_3 a3_4)) = some r := H
    have A21 := Aside0.mk A210
    clear A210
    by_cases c22 : t267 = true
    ·
     subst c22
     have H1 : ((folkmootref15_Form.f a1_0 a1_1 a1_2 a1_3 l1_4).bind fun t268 => (if t268 = true then ((folkmootref15_Right.f k l2_0 l2_1 a2_2 a2_3 a2_4).bind fun t269 => (if t269 = true then ((folkmootref15_Right.f k l3_0 l3_1 a3_2 a3_3 a3_4).bind fun t270 => (folkmootlaw15_ContentApart.j0 k (!t270) a0_0 a0_1 a0_2 a0_3 l0_4 a1_0 a1_1 a1_2 a1_3 l1_4 l2_0 l2_1 a2_2 a2_3 a2_4 l3_0 l3_1 a3_2 a3_3 a3_4)) else (folkmootlaw15_ContentApart.j0 k true a0_0 a0_1 a0_2 a0_3 l0_4 a1_0 a1_1 a1_2 a1_3 l1_4 l2_0 l2_1 a2_2 a2_3 a2_4 l3_0 l3_1 a3_2 a3_3 a3_4))) else (folkmootlaw15_ContentApart.j0 k true a0_0 a0_1 a0_2 a0_3 l0_4 a1_0 a1_1 a1_2 a1_3 l1_4 l2_0 l2_1 a2_2 a2_3 a2_4 l3_0 l3_1 a3_2 a3_3 a3_4))) = some r := by rw [if_pos rfl] at H; exact H
     clear H
     have H := H1
     clear H1
     replace H := Option.bind_eq_some_iff.mp H
     obtain ⟨t268, A230, H⟩ := H
     replace H : (if t268 = true then ((folkmootref15_Right.f k l2_0 l2_1 a2_2 a2_3 a2_4).bind fun t269 => (if t269 = true then ((folkmootref15_Right.f k l3_0 l3_1 a3_2 a3_3 a3_4).bind fun t270 => (folkmootlaw15_ContentApart.j0 k (!t270) a0_0 a0_1 a0_2 a0_3 l0_4 a1_0 a1_1 a1_2 a1_3 l1_4 l2_0 l2_1 a2_2 a2_3 a2_4 l3_0 l3_1 a3_2 a3_3 a3_4)) else (folkmootlaw15_ContentApart.j0 k true a0_0 a0_1 a0_2 a0_3 l0_4 a1_0 a1_1 a1_2 a1_3 l1_4 l2_0 l2_1 a2_2 a2_3 a2_4 l3_0 l3_1 a3_2 a3_3 a3_4))) else (folkmootlaw15_ContentApart.j0 k true a0_0 a0_1 a0_2 a0_3 l0_4 a1_0 a1_1 a1_2 a1_3 l1_4 l2_0 l2_1 a2_2 a2_3 a2_4 l3_0 l3_1 a3_2 a3_3 a3_4)) = some r := H
     have A23 := Aside0.mk A230
     clear A230
     by_cases c24 : t268 = true
     ·
      subst c24
      have H1 : ((folkmootref15_Right.f k l2_0 l2_1 a2_2 a2_3 a2_4).bind fun t269 => (if t269 = true then ((folkmootref15_Right.f k l3_0 l3_1 a3_2 a3_3 a3_4).bind fun t270 => (folkmootlaw15_ContentApart.j0 k (!t270) a0_0 a0_1 a0_2 a0_3 l0_4 a1_0 a1_1 a1_2 a1_3 l1_4 l2_0 l2_1 a2_2 a2_3 a2_4 l3_0 l3_1 a3_2 a3_3 a3_4)) else (folkmootlaw15_ContentApart.j0 k true a0_0 a0_1 a0_2 a0_3 l0_4 a1_0 a1_1 a1_2 a1_3 l1_4 l2_0 l2_1 a2_2 a2_3 a2_4 l3_0 l3_1 a3_2 a3_3 a3_4))) = some r := by rw [if_pos rfl] at H; exact H
      clear H
      have H := H1
      clear H1
      replace H := Option.bind_eq_some_iff.mp H
      obtain ⟨t269, A250, H⟩ := H
      replace H : (if t269 = true then ((folkmootref15_Right.f k l3_0 l3_1 a3_2 a3_3 a3_4).bind fun t270 => (folkmootlaw15_ContentApart.j0 k (!t270) a0_0 a0_1 a0_2 a0_3 l0_4 a1_0 a1_1 a1_2 a1_3 l1_4 l2_0 l2_1 a2_2 a2_3 a2_4 l3_0 l3_1 a3_2 a3_3 a3_4)) else (folkmootlaw15_ContentApart.j0 k true a0_0 a0_1 a0_2 a0_3 l0_4 a1_0 a1_1 a1_2 a1_3 l1_4 l2_0 l2_1 a2_2 a2_3 a2_4 l3_0 l3_1 a3_2 a3_3 a3_4)) = some r := H
      have A25 := Aside0.mk A250
      clear A250
      by_cases c26 : t269 = true
      ·
       subst c26
       have H1 : ((folkmootref15_Right.f k l3_0 l3_1 a3_2 a3_3 a3_4).bind fun t270 => (folkmootlaw15_ContentApart.j0 k (!t270) a0_0 a0_1 a0_2 a0_3 l0_4 a1_0 a1_1 a1_2 a1_3 l1_4 l2_0 l2_1 a2_2 a2_3 a2_4 l3_0 l3_1 a3_2 a3_3 a3_4)) = some r := by rw [if_pos rfl] at H; exact H
       clear H
       have H := H1
       clear H1
       replace H := Option.bind_eq_some_iff.mp H
       obtain ⟨t270, A270, H⟩ := H
       replace H : (folkmootlaw15_ContentApart.j0 k (!t270) a0_0 a0_1 a0_2 a0_3 l0_4 a1_0 a1_1 a1_2 a1_3 l1_4 l2_0 l2_1 a2_2 a2_3 a2_4 l3_0 l3_1 a3_2 a3_3 a3_4) = some r := H
       have A27 := Aside0.mk A270
       clear A270
       have H' := Aside0.mk H
       clear H
       go_wp2_with (first | ((with_reducible refine gate_callee (f := 22) rfl ?_); refine goesL_ (some 17) rfl rfl Try.func22 (by kernel_rfl) rfl #[] rfl za_ ?_; (with_reducible refine (folkmootlaw15_awake.calls  true _ A10.out).mono ?_); rintro e w28 ⟨rfl, hb⟩; refine ⟨_, rfl, ?_⟩; have n0_ := zk_ BK262 hb; have n1_ := zk_ BK263 hb; have n2_ := zk_ BK264 hb; have n3_ := zk_ BK265 hb; have n4_ := Aside0.mk (below_step zb_ hb); clear BK262; clear BK263; clear BK264; clear BK265; clear HB; have BK262 := n0_; have BK263 := n1_; have BK264 := n2_; have BK265 := n3_; have HB := n4_; clear n0_ n1_ n2_ n3_ n4_; (try clear hb); (try clear hb2); (try clear hk); (try clear hi); have hnb29 := NB264_262.out; have hnc29 := NB262_264.out; have hnb30 := NB264_263.out; have hnc30 := NB263_264.out; have hnb31 := NB264_265.out; have hnc31 := NB265_264.out; have hcz32_0 : w28.cell? ⟨gb264, 0, none⟩ = some (.slice A2_0 l2_0.length c2_0) := (blk_cell BK264.out 0).trans rfl; have hcz32_1 : w28.cell? ⟨gb264, 1, none⟩ = some (.slice A2_1 l2_1.length c2_1) := (blk_cell BK264.out 1).trans rfl; have hcz32_2 : w28.cell? ⟨gb264, 2, none⟩ = some (.int .i64 a2_2) := (blk_cell BK264.out 2).trans rfl; have hcz32_3 : w28.cell? ⟨gb264, 3, none⟩ = some (.int .u64 a2_3) := (blk_cell BK264.out 3).trans rfl; have hcz32_4 : w28.cell? ⟨gb264, 4, none⟩ = some (.int .i64 a2_4) := (blk_cell BK264.out 4).trans rfl; have hfz32_0 := blk_frozen BK264.out 0; have hfz32_1 := blk_frozen BK264.out 1; have hfz32_2 := blk_frozen BK264.out 2; have hfz32_3 := blk_frozen BK264.out 3; have hfz32_4 := blk_frozen BK264.out 4; have hnb33 := NB265_262.out; have hnc33 := NB262_265.out; have hnb34 := NB265_263.out; have hnc34 := NB263_265.out; have hcz35_0 : w28.cell? ⟨gb265, 0, none⟩ = some (.slice A3_0 l3_0.length c3_0) := (blk_cell BK265.out 0).trans rfl; have hcz35_1 : w28.cell? ⟨gb265, 1, none⟩ = some (.slice A3_1 l3_1.length c3_1) := (blk_cell BK265.out 1).trans rfl; have hcz35_2 : w28.cell? ⟨gb265, 2, none⟩ = some (.int .i64 a3_2) := (blk_cell BK265.out 2).trans rfl; have hcz35_3 : w28.cell? ⟨gb265, 3, none⟩ = some (.int .u64 a3_3) := (blk_cell BK265.out 3).trans rfl; have hcz35_4 : w28.cell? ⟨gb265, 4, none⟩ = some (.int .i64 a3_4) := (blk_cell BK265.out 4).trans rfl; have hfz35_0 := blk_frozen BK265.out 0; have hfz35_1 := blk_frozen BK265.out 1; have hfz35_2 := blk_frozen BK265.out 2; have hfz35_3 := blk_frozen BK265.out 3; have hfz35_4 := blk_frozen BK265.out 4; have hnb36 := NB262_263.out; have hnc36 := NB263_262.out; have hcz37_0 : w28.cell? ⟨gb262, 0, none⟩ = some (.int .u64 a0_0) := (blk_cell BK262.out 0).trans rfl; have hcz37_1 : w28.cell? ⟨gb262, 1, none⟩ = some (.int .i64 a0_1) := (blk_cell BK262.out 1).trans rfl; have hcz37_2 : w28.cell? ⟨gb262, 2, none⟩ = some (.int .u64 a0_2) := (blk_cell BK262.out 2).trans rfl; have hcz37_3 : w28.cell? ⟨gb262, 3, none⟩ = some (.int .i64 a0_3) := (blk_cell BK262.out 3).trans rfl; have hcz37_4 : w28.cell? ⟨gb262, 4, none⟩ = some (.slice A0_4 l0_4.length c0_4) := (blk_cell BK262.out 4).trans rfl; have hfz37_0 := blk_frozen BK262.out 0; have hfz37_1 := blk_frozen BK262.out 1; have hfz37_2 := blk_frozen BK262.out 2; have hfz37_3 := blk_frozen BK262.out 3; have hfz37_4 := blk_frozen BK262.out 4) | (go_at_call 44; (with_reducible refine (folkmootref15_Form.calls a0_0 a0_1 a0_2 a0_3 _ _ l0_4 true _ ?side1 ?side2 A21.out).mono ?_); (case side1 => exact zc_ HR0_4 HB); (case side2 => exact HC0_4.out); rintro e w38 ⟨rfl, hb⟩; have n0_ := zk_ BK262 hb; have n1_ := zk_ BK263 hb; have n2_ := zk_ BK264 hb; have n3_ := zk_ BK265 hb; have n4_ := Aside0.mk (below_step zb_ hb); clear BK262; clear BK263; clear BK264; clear BK265; clear HB; have BK262 := n0_; have BK263 := n1_; have BK264 := n2_; have BK265 := n3_; have HB := n4_; clear n0_ n1_ n2_ n3_ n4_; (try clear hb); (try clear hb2); (try clear hk); (try clear hi); have hcz39_0 : w38.cell? ⟨gb263, 0, none⟩ = some (.int .u64 a1_0) := (blk_cell BK263.out 0).trans rfl; have hcz39_1 : w38.cell? ⟨gb263, 1, none⟩ = some (.int .i64 a1_1) := (blk_cell BK263.out 1).trans rfl; have hcz39_2 : w38.cell? ⟨gb263, 2, none⟩ = some (.int .u64 a1_2) := (blk_cell BK263.out 2).trans rfl; have hcz39_3 : w38.cell? ⟨gb263, 3, none⟩ = some (.int .i64 a1_3) := (blk_cell BK263.out 3).trans rfl; have hcz39_4 : w38.cell? ⟨gb263, 4, none⟩ = some (.slice A1_4 l1_4.length c1_4) := (blk_cell BK263.out 4).trans rfl; have hfz39_0 := blk_frozen BK263.out 0; have hfz39_1 := blk_frozen BK263.out 1; have hfz39_2 := blk_frozen BK263.out 2; have hfz39_3 := blk_frozen BK263.out 3; have hfz39_4 := blk_frozen BK263.out 4) | (go_at_call 44; (with_reducible refine (folkmootref15_Form.calls a1_0 a1_1 a1_2 a1_3 _ _ l1_4 true _ ?side1 ?side2 A23.out).mono ?_); (case side1 => exact zc_ HR1_4 HB); (case side2 => exact HC1_4.out); rintro e w40 ⟨rfl, hb⟩; have n0_ := zk_ BK262 hb; have n1_ := zk_ BK263 hb; have n2_ := zk_ BK264 hb; have n3_ := zk_ BK265 hb; have n4_ := Aside0.mk (below_step zb_ hb); clear BK262; clear BK263; clear BK264; clear BK265; clear HB; have BK262 := n0_; have BK263 := n1_; have BK264 := n2_; have BK265 := n3_; have HB := n4_; clear n0_ n1_ n2_ n3_ n4_; (try clear hb); (try clear hb2); (try clear hk); (try clear hi); have hcz41_0 : w40.cell? ⟨gb264, 0, none⟩ = some (.slice A2_0 l2_0.length c2_0) := (blk_cell BK264.out 0).trans rfl; have hcz41_1 : w40.cell? ⟨gb264, 1, none⟩ = some (.slice A2_1 l2_1.length c2_1) := (blk_cell BK264.out 1).trans rfl; have hcz41_2 : w40.cell? ⟨gb264, 2, none⟩ = some (.int .i64 a2_2) := (blk_cell BK264.out 2).trans rfl; have hcz41_3 : w40.cell? ⟨gb264, 3, none⟩ = some (.int .u64 a2_3) := (blk_cell BK264.out 3).trans rfl; have hcz41_4 : w40.cell? ⟨gb264, 4, none⟩ = some (.int .i64 a2_4) := (blk_cell BK264.out 4).trans rfl; have hfz41_0 := blk_frozen BK264.out 0; have hfz41_1 := blk_frozen BK264.out 1; have hfz41_2 := blk_frozen BK264.out 2; have hfz41_3 := blk_frozen BK264.out 3; have hfz41_4 := blk_frozen BK264.out 4) | (go_at_call 45; (with_reducible refine (folkmootref15_Right.calls k _ _ l2_0 _ _ l2_1 a2_2 a2_3 a2_4 true _ ?side1 ?side2 ?side3 ?side4 A25.out).mono ?_); (case side1 => exact zc_ HR2_0 HB); (case side2 => exact HC2_0.out); (case side3 => exact zc_ HR2_1 HB); (case side4 => exact HC2_1.out); rintro e w42 ⟨rfl, hb⟩; have n0_ := zk_ BK262 hb; have n1_ := zk_ BK263 hb; have n2_ := zk_ BK264 hb; have n3_ := zk_ BK265 hb; have n4_ := Aside0.mk (below_step zb_ hb); clear BK262; clear BK263; clear BK264; clear BK265; clear HB; have BK262 := n0_; have BK263 := n1_; have BK264 := n2_; have BK265 := n3_; have HB := n4_; clear n0_ n1_ n2_ n3_ n4_; (try clear hb); (try clear hb2); (try clear hk); (try clear hi); have hcz43_0 : w42.cell? ⟨gb265, 0, none⟩ = some (.slice A3_0 l3_0.length c3_0) := (blk_cell BK265.out 0).trans rfl; have hcz43_1 : w42.cell? ⟨gb265, 1, none⟩ = some (.slice A3_1 l3_1.length c3_1) := (blk_cell BK265.out 1).trans rfl; have hcz43_2 : w42.cell? ⟨gb265, 2, none⟩ = some (.int .i64 a3_2) := (blk_cell BK265.out 2).trans rfl; have hcz43_3 : w42.cell? ⟨gb265, 3, none⟩ = some (.int .u64 a3_3) := (blk_cell BK265.out 3).trans rfl; have hcz43_4 : w42.cell? ⟨gb265, 4, none⟩ = some (.int .i64 a3_4) := (blk_cell BK265.out 4).trans rfl; have hfz43_0 := blk_frozen BK265.out 0; have hfz43_1 := blk_frozen BK265.out 1; have hfz43_2 := blk_frozen BK265.out 2; have hfz43_3 := blk_frozen BK265.out 3; have hfz43_4 := blk_frozen BK265.out 4) | (go_at_call 45; (with_reducible refine (folkmootref15_Right.calls k _ _ l3_0 _ _ l3_1 a3_2 a3_3 a3_4 t270 _ ?side1 ?side2 ?side3 ?side4 A27.out).mono ?_); (case side1 => exact zc_ HR3_0 HB); (case side2 => exact HC3_0.out); (case side3 => exact zc_ HR3_1 HB); (case side4 => exact HC3_1.out); rintro e w44 ⟨rfl, hb⟩; have n0_ := zk_ BK262 hb; have n1_ := zk_ BK263 hb; have n2_ := zk_ BK264 hb; have n3_ := zk_ BK265 hb; have n4_ := Aside0.mk (below_step zb_ hb); clear BK262; clear BK263; clear BK264; clear BK265; clear HB; have BK262 := n0_; have BK263 := n1_; have BK264 := n2_; have BK265 := n3_; have HB := n4_; clear n0_ n1_ n2_ n3_ n4_; (try clear hb); (try clear hb2); (try clear hk); (try clear hi)))
       go_meet
       case rel => exact ⟨_, (!t270), (by first | rfl | (simp; done) | (simp [*]; done)), H', ⟨by first | omega | exact Nat.le_refl _⟩, ⟨by (with_reducible repeat (first | refine blk_drewN ?_ _ | refine blk_drew ?_ | refine blk_alloc ?_ _)); exact BK262.out⟩, ⟨by (with_reducible repeat (first | refine blk_drewN ?_ _ | refine blk_drew ?_ | refine blk_alloc ?_ _)); exact BK263.out⟩, ⟨by (with_reducible repeat (first | refine blk_drewN ?_ _ | refine blk_drew ?_ | refine blk_alloc ?_ _)); exact BK264.out⟩, ⟨by (with_reducible repeat (first | refine blk_drewN ?_ _ | refine blk_drew ?_ | refine blk_alloc ?_ _)); exact BK265.out⟩, ⟨by repeat (first | (with_reducible first | exact HB.out | apply below_alloc | apply pw_below_drewN | apply below_drew1 | refine below_set ?_ GE262.out | refine below_set ?_ GE263.out | refine below_set ?_ GE264.out | refine below_set ?_ GE265.out) | exact HB.out)⟩⟩
      ·
       replace c26 := Bool.eq_false_iff.mpr c26
       subst c26
       have H1 : (folkmootlaw15_ContentApart.j0 k true a0_0 a0_1 a0_2 a0_3 l0_4 a1_0 a1_1 a1_2 a1_3 l1_4 l2_0 l2_1 a2_2 a2_3 a2_4 l3_0 l3_1 a3_2 a3_3 a3_4) = some r := by rw [if_neg (show ¬ (false = true) by decide)] at H; exact H
       clear H
       have H := H1
       clear H1
       have H' := Aside0.mk H
       clear H
       go_wp2_with (first | ((with_reducible refine gate_callee (f := 22) rfl ?_); refine goesL_ (some 17) rfl rfl Try.func22 (by kernel_rfl) rfl #[] rfl za_ ?_; (with_reducible refine (folkmootlaw15_awake.calls  true _ A10.out).mono ?_); rintro e w45 ⟨rfl, hb⟩; refine ⟨_, rfl, ?_⟩; have n0_ := zk_ BK262 hb; have n1_ := zk_ BK263 hb; have n2_ := zk_ BK264 hb; have n3_ := zk_ BK265 hb; have n4_ := Aside0.mk (below_step zb_ hb); clear BK262; clear BK263; clear BK264; clear BK265; clear HB; have BK262 := n0_; have BK263 := n1_; have BK264 := n2_; have BK265 := n3_; have HB := n4_; clear n0_ n1_ n2_ n3_ n4_; (try clear hb); (try clear hb2); (try clear hk); (try clear hi); have hnb46 := NB264_262.out; have hnc46 := NB262_264.out; have hnb47 := NB264_263.out; have hnc47 := NB263_264.out; have hnb48 := NB264_265.out; have hnc48 := NB265_264.out; have hcz49_0 : w45.cell? ⟨gb264, 0, none⟩ = some (.slice A2_0 l2_0.length c2_0) := (blk_cell BK264.out 0).trans rfl; have hcz49_1 : w45.cell? ⟨gb264, 1, none⟩ = some (.slice A2_1 l2_1.length c2_1) := (blk_cell BK264.out 1).trans rfl; have hcz49_2 : w45.cell? ⟨gb264, 2, none⟩ = some (.int .i64 a2_2) := (blk_cell BK264.out 2).trans rfl; have hcz49_3 : w45.cell? ⟨gb264, 3, none⟩ = some (.int .u64 a2_3) := (blk_cell BK264.out 3).trans rfl; have hcz49_4 : w45.cell? ⟨gb264, 4, none⟩ = some (.int .i64 a2_4) := (blk_cell BK264.out 4).trans rfl; have hfz49_0 := blk_frozen BK264.out 0; have hfz49_1 := blk_frozen BK264.out 1; have hfz49_2 := blk_frozen BK264.out 2; have hfz49_3 := blk_frozen BK264.out 3; have hfz49_4 := blk_frozen BK264.out 4; have hnb50 := NB265_262.out; have hnc50 := NB262_265.out; have hnb51 := NB265_263.out; have hnc51 := NB263_265.out; have hcz52_0 : w45.cell? ⟨gb265, 0, none⟩ = some (.slice A3_0 l3_0.length c3_0) := (blk_cell BK265.out 0).trans rfl; have hcz52_1 : w45.cell? ⟨gb265, 1, none⟩ = some (.slice A3_1 l3_1.length c3_1) := (blk_cell BK265.out 1).trans rfl; have hcz52_2 : w45.cell? ⟨gb265, 2, none⟩ = some (.int .i64 a3_2) := (blk_cell BK265.out 2).trans rfl; have hcz52_3 : w45.cell? ⟨gb265, 3, none⟩ = some (.int .u64 a3_3) := (blk_cell BK265.out 3).trans rfl; have hcz52_4 : w45.cell? ⟨gb265, 4, none⟩ = some (.int .i64 a3_4) := (blk_cell BK265.out 4).trans rfl; have hfz52_0 := blk_frozen BK265.out 0; have hfz52_1 := blk_frozen BK265.out 1; have hfz52_2 := blk_frozen BK265.out 2; have hfz52_3 := blk_frozen BK265.out 3; have hfz52_4 := blk_frozen BK265.out 4; have hnb53 := NB262_263.out; have hnc53 := NB263_262.out; have hcz54_0 : w45.cell? ⟨gb262, 0, none⟩ = some (.int .u64 a0_0) := (blk_cell BK262.out 0).trans rfl; have hcz54_1 : w45.cell? ⟨gb262, 1, none⟩ = some (.int .i64 a0_1) := (blk_cell BK262.out 1).trans rfl; have hcz54_2 : w45.cell? ⟨gb262, 2, none⟩ = some (.int .u64 a0_2) := (blk_cell BK262.out 2).trans rfl; have hcz54_3 : w45.cell? ⟨gb262, 3, none⟩ = some (.int .i64 a0_3) := (blk_cell BK262.out 3).trans rfl; have hcz54_4 : w45.cell? ⟨gb262, 4, none⟩ = some (.slice A0_4 l0_4.length c0_4) := (blk_cell BK262.out 4).trans rfl; have hfz54_0 := blk_frozen BK262.out 0; have hfz54_1 := blk_frozen BK262.out 1; have hfz54_2 := blk_frozen BK262.out 2; have hfz54_3 := blk_frozen BK262.out 3; have hfz54_4 := blk_frozen BK262.out 4) | (go_at_call 44; (with_reducible refine (folkmootref15_Form.calls a0_0 a0_1 a0_2 a0_3 _ _ l0_4 true _ ?side1 ?side2 A21.out).mono ?_); (case side1 => exact zc_ HR0_4 HB); (case side2 => exact HC0_4.out); rintro e w55 ⟨rfl, hb⟩; have n0_ := zk_ BK262 hb; have n1_ := zk_ BK263 hb; have n2_ := zk_ BK264 hb; have n3_ := zk_ BK265 hb; have n4_ := Aside0.mk (below_step zb_ hb); clear BK262; clear BK263; clear BK264; clear BK265; clear HB; have BK262 := n0_; have BK263 := n1_; have BK264 := n2_; have BK265 := n3_; have HB := n4_; clear n0_ n1_ n2_ n3_ n4_; (try clear hb); (try clear hb2); (try clear hk); (try clear hi); have hcz56_0 : w55.cell? ⟨gb263, 0, none⟩ = some (.int .u64 a1_0) := (blk_cell BK263.out 0).trans rfl; have hcz56_1 : w55.cell? ⟨gb263, 1, none⟩ = some (.int .i64 a1_1) := (blk_cell BK263.out 1).trans rfl; have hcz56_2 : w55.cell? ⟨gb263, 2, none⟩ = some (.int .u64 a1_2) := (blk_cell BK263.out 2).trans rfl; have hcz56_3 : w55.cell? ⟨gb263, 3, none⟩ = some (.int .i64 a1_3) := (blk_cell BK263.out 3).trans rfl; have hcz56_4 : w55.cell? ⟨gb263, 4, none⟩ = some (.slice A1_4 l1_4.length c1_4) := (blk_cell BK263.out 4).trans rfl; have hfz56_0 := blk_frozen BK263.out 0; have hfz56_1 := blk_frozen BK263.out 1; have hfz56_2 := blk_frozen BK263.out 2; have hfz56_3 := blk_frozen BK263.out 3; have hfz56_4 := blk_frozen BK263.out 4) | (go_at_call 44; (with_reducible refine (folkmootref15_Form.calls a1_0 a1_1 a1_2 a1_3 _ _ l1_4 true _ ?side1 ?side2 A23.out).mono ?_); (case side1 => exact zc_ HR1_4 HB); (case side2 => exact HC1_4.out); rintro e w57 ⟨rfl, hb⟩; have n0_ := zk_ BK262 hb; have n1_ := zk_ BK263 hb; have n2_ := zk_ BK264 hb; have n3_ := zk_ BK265 hb; have n4_ := Aside0.mk (below_step zb_ hb); clear BK262; clear BK263; clear BK264; clear BK265; clear HB; have BK262 := n0_; have BK263 := n1_; have BK264 := n2_; have BK265 := n3_; have HB := n4_; clear n0_ n1_ n2_ n3_ n4_; (try clear hb); (try clear hb2); (try clear hk); (try clear hi); have hcz58_0 : w57.cell? ⟨gb264, 0, none⟩ = some (.slice A2_0 l2_0.length c2_0) := (blk_cell BK264.out 0).trans rfl; have hcz58_1 : w57.cell? ⟨gb264, 1, none⟩ = some (.slice A2_1 l2_1.length c2_1) := (blk_cell BK264.out 1).trans rfl; have hcz58_2 : w57.cell? ⟨gb264, 2, none⟩ = some (.int .i64 a2_2) := (blk_cell BK264.out 2).trans rfl; have hcz58_3 : w57.cell? ⟨gb264, 3, none⟩ = some (.int .u64 a2_3) := (blk_cell BK264.out 3).trans rfl; have hcz58_4 : w57.cell? ⟨gb264, 4, none⟩ = some (.int .i64 a2_4) := (blk_cell BK264.out 4).trans rfl; have hfz58_0 := blk_frozen BK264.out 0; have hfz58_1 := blk_frozen BK264.out 1; have hfz58_2 := blk_frozen BK264.out 2; have hfz58_3 := blk_frozen BK264.out 3; have hfz58_4 := blk_frozen BK264.out 4) | (go_at_call 45; (with_reducible refine (folkmootref15_Right.calls k _ _ l2_0 _ _ l2_1 a2_2 a2_3 a2_4 false _ ?side1 ?side2 ?side3 ?side4 A25.out).mono ?_); (case side1 => exact zc_ HR2_0 HB); (case side2 => exact HC2_0.out); (case side3 => exact zc_ HR2_1 HB); (case side4 => exact HC2_1.out); rintro e w59 ⟨rfl, hb⟩; have n0_ := zk_ BK262 hb; have n1_ := zk_ BK263 hb; have n2_ := zk_ BK264 hb; have n3_ := zk_ BK265 hb; have n4_ := Aside0.mk (below_step zb_ hb); clear BK262; clear BK263; clear BK264; clear BK265; clear HB; have BK262 := n0_; have BK263 := n1_; have BK264 := n2_; have BK265 := n3_; have HB := n4_; clear n0_ n1_ n2_ n3_ n4_; (try clear hb); (try clear hb2); (try clear hk); (try clear hi)))
       go_meet
       case rel => exact ⟨_, (true), (by first | rfl | (simp; done) | (simp [*]; done)), H', ⟨by first | omega | exact Nat.le_refl _⟩, ⟨by (with_reducible repeat (first | refine blk_drewN ?_ _ | refine blk_drew ?_ | refine blk_alloc ?_ _)); exact BK262.out⟩, ⟨by (with_reducible repeat (first | refine blk_drewN ?_ _ | refine blk_drew ?_ | refine blk_alloc ?_ _)); exact BK263.out⟩, ⟨by (with_reducible repeat (first | refine blk_drewN ?_ _ | refine blk_drew ?_ | refine blk_alloc ?_ _)); exact BK264.out⟩, ⟨by (with_reducible repeat (first | refine blk_drewN ?_ _ | refine blk_drew ?_ | refine blk_alloc ?_ _)); exact BK265.out⟩, ⟨by repeat (first | (with_reducible first | exact HB.out | apply below_alloc | apply pw_below_drewN | apply below_drew1 | refine below_set ?_ GE262.out | refine below_set ?_ GE263.out | refine below_set ?_ GE264.out | refine below_set ?_ GE265.out) | exact HB.out)⟩⟩
     ·
      replace c24 := Bool.eq_false_iff.mpr c24
      subst c24
      have H1 : (folkmootlaw15_ContentApart.j0 k true a0_0 a0_1 a0_2 a0_3 l0_4 a1_0 a1_1 a1_2 a1_3 l1_4 l2_0 l2_1 a2_2 a2_3 a2_4 l3_0 l3_1 a3_2 a3_3 a3_4) = some r := by rw [if_neg (show ¬ (false = true) by decide)] at H; exact H
      clear H
      have H := H1
      clear H1
      have H' := Aside0.mk H
      clear H
      go_wp2_with (first | ((with_reducible refine gate_callee (f := 22) rfl ?_); refine goesL_ (some 17) rfl rfl Try.func22 (by kernel_rfl) rfl #[] rfl za_ ?_; (with_reducible refine (folkmootlaw15_awake.calls  true _ A10.out).mono ?_); rintro e w60 ⟨rfl, hb⟩; refine ⟨_, rfl, ?_⟩; have n0_ := zk_ BK262 hb; have n1_ := zk_ BK263 hb; have n2_ := zk_ BK264 hb; have n3_ := zk_ BK265 hb; have n4_ := Aside0.mk (below_step zb_ hb); clear BK262; clear BK263; clear BK264; clear BK265; clear HB; have BK262 := n0_; have BK263 := n1_; have BK264 := n2_; have BK265 := n3_; have HB := n4_; clear n0_ n1_ n2_ n3_ n4_; (try clear hb); (try clear hb2); (try clear hk); (try clear hi); have hnb61 := NB264_262.out; have hnc61 := NB262_264.out; have hnb62 := NB264_263.out; have hnc62 := NB263_264.out; have hnb63 := NB264_265.out; have hnc63 := NB265_264.out; have hcz64_0 : w60.cell? ⟨gb264, 0, none⟩ = some (.slice A2_0 l2_0.length c2_0) := (blk_cell BK264.out 0).trans rfl; have hcz64_1 : w60.cell? ⟨gb264, 1, none⟩ = some (.slice A2_1 l2_1.length c2_1) := (blk_cell BK264.out 1).trans rfl; have hcz64_2 : w60.cell? ⟨gb264, 2, none⟩ = some (.int .i64 a2_2) := (blk_cell BK264.out 2).trans rfl; have hcz64_3 : w60.cell? ⟨gb264, 3, none⟩ = some (.int .u64 a2_3) := (blk_cell BK264.out 3).trans rfl; have hcz64_4 : w60.cell? ⟨gb264, 4, none⟩ = some (.int .i64 a2_4) := (blk_cell BK264.out 4).trans rfl; have hfz64_0 := blk_frozen BK264.out 0; have hfz64_1 := blk_frozen BK264.out 1; have hfz64_2 := blk_frozen BK264.out 2; have hfz64_3 := blk_frozen BK264.out 3; have hfz64_4 := blk_frozen BK264.out 4; have hnb65 := NB265_262.out; have hnc65 := NB262_265.out; have hnb66 := NB265_263.out; have hnc66 := NB263_265.out; have hcz67_0 : w60.cell? ⟨gb265, 0, none⟩ = some (.slice A3_0 l3_0.length c3_0) := (blk_cell BK265.out 0).trans rfl; have hcz67_1 : w60.cell? ⟨gb265, 1, none⟩ = some (.slice A3_1 l3_1.length c3_1) := (blk_cell BK265.out 1).trans rfl; have hcz67_2 : w60.cell? ⟨gb265, 2, none⟩ = some (.int .i64 a3_2) := (blk_cell BK265.out 2).trans rfl; have hcz67_3 : w60.cell? ⟨gb265, 3, none⟩ = some (.int .u64 a3_3) := (blk_cell BK265.out 3).trans rfl; have hcz67_4 : w60.cell? ⟨gb265, 4, none⟩ = some (.int .i64 a3_4) := (blk_cell BK265.out 4).trans rfl; have hfz67_0 := blk_frozen BK265.out 0; have hfz67_1 := blk_frozen BK265.out 1; have hfz67_2 := blk_frozen BK265.out 2; have hfz67_3 := blk_frozen BK265.out 3; have hfz67_4 := blk_frozen BK265.out 4; have hnb68 := NB262_263.out; have hnc68 := NB263_262.out; have hcz69_0 : w60.cell? ⟨gb262, 0, none⟩ = some (.int .u64 a0_0) := (blk_cell BK262.out 0).trans rfl; have hcz69_1 : w60.cell? ⟨gb262, 1, none⟩ = some (.int .i64 a0_1) := (blk_cell BK262.out 1).trans rfl; have hcz69_2 : w60.cell? ⟨gb262, 2, none⟩ = some (.int .u64 a0_2) := (blk_cell BK262.out 2).trans rfl; have hcz69_3 : w60.cell? ⟨gb262, 3, none⟩ = some (.int .i64 a0_3) := (blk_cell BK262.out 3).trans rfl; have hcz69_4 : w60.cell? ⟨gb262, 4, none⟩ = some (.slice A0_4 l0_4.length c0_4) := (blk_cell BK262.out 4).trans rfl; have hfz69_0 := blk_frozen BK262.out 0; have hfz69_1 := blk_frozen BK262.out 1; have hfz69_2 := blk_frozen BK262.out 2; have hfz69_3 := blk_frozen BK262.out 3; have hfz69_4 := blk_frozen BK262.out 4) | (go_at_call 44; (with_reducible refine (folkmootref15_Form.calls a0_0 a0_1 a0_2 a0_3 _ _ l0_4 true _ ?side1 ?side2 A21.out).mono ?_); (case side1 => exact zc_ HR0_4 HB); (case side2 => exact HC0_4.out); rintro e w70 ⟨rfl, hb⟩; have n0_ := zk_ BK262 hb; have n1_ := zk_ BK263 hb; have n2_ := zk_ BK264 hb; have n3_ := zk_ BK265 hb; have n4_ := Aside0.mk (below_step zb_ hb); clear BK262; clear BK263; clear BK264; clear BK265; clear HB; have BK262 := n0_; have BK263 := n1_; have BK264 := n2_; have BK265 := n3_; have HB := n4_; clear n0_ n1_ n2_ n3_ n4_; (try clear hb); (try clear hb2); (try clear hk); (try clear hi); have hcz71_0 : w70.cell? ⟨gb263, 0, none⟩ = some (.int .u64 a1_0) := (blk_cell BK263.out 0).trans rfl; have hcz71_1 : w70.cell? ⟨gb263, 1, none⟩ = some (.int .i64 a1_1) := (blk_cell BK263.out 1).trans rfl; have hcz71_2 : w70.cell? ⟨gb263, 2, none⟩ = some (.int .u64 a1_2) := (blk_cell BK263.out 2).trans rfl; have hcz71_3 : w70.cell? ⟨gb263, 3, none⟩ = some (.int .i64 a1_3) := (blk_cell BK263.out 3).trans rfl; have hcz71_4 : w70.cell? ⟨gb263, 4, none⟩ = some (.slice A1_4 l1_4.length c1_4) := (blk_cell BK263.out 4).trans rfl; have hfz71_0 := blk_frozen BK263.out 0; have hfz71_1 := blk_frozen BK263.out 1; have hfz71_2 := blk_frozen BK263.out 2; have hfz71_3 := blk_frozen BK263.out 3; have hfz71_4 := blk_frozen BK263.out 4) | (go_at_call 44; (with_reducible refine (folkmootref15_Form.calls a1_0 a1_1 a1_2 a1_3 _ _ l1_4 false _ ?side1 ?side2 A23.out).mono ?_); (case side1 => exact zc_ HR1_4 HB); (case side2 => exact HC1_4.out); rintro e w72 ⟨rfl, hb⟩; have n0_ := zk_ BK262 hb; have n1_ := zk_ BK263 hb; have n2_ := zk_ BK264 hb; have n3_ := zk_ BK265 hb; have n4_ := Aside0.mk (below_step zb_ hb); clear BK262; clear BK263; clear BK264; clear BK265; clear HB; have BK262 := n0_; have BK263 := n1_; have BK264 := n2_; have BK265 := n3_; have HB := n4_; clear n0_ n1_ n2_ n3_ n4_; (try clear hb); (try clear hb2); (try clear hk); (try clear hi)))
      go_meet
      case rel => exact ⟨_, (true), (by first | rfl | (simp; done) | (simp [*]; done)), H', ⟨by first | omega | exact Nat.le_refl _⟩, ⟨by (with_reducible repeat (first | refine blk_drewN ?_ _ | refine blk_drew ?_ | refine blk_alloc ?_ _)); exact BK262.out⟩, ⟨by (with_reducible repeat (first | refine blk_drewN ?_ _ | refine blk_drew ?_ | refine blk_alloc ?_ _)); exact BK263.out⟩, ⟨by (with_reducible repeat (first | refine blk_drewN ?_ _ | refine blk_drew ?_ | refine blk_alloc ?_ _)); exact BK264.out⟩, ⟨by (with_reducible repeat (first | refine blk_drewN ?_ _ | refine blk_drew ?_ | refine blk_alloc ?_ _)); exact BK265.out⟩, ⟨by repeat (first | (with_reducible first | exact HB.out | apply below_alloc | apply pw_below_drewN | apply below_drew1 | refine below_set ?_ GE262.out | refine below_set ?_ GE263.out | refine below_set ?_ GE264.out | refine below_set ?_ GE265.out) | exact HB.out)⟩⟩
    ·
     replace c22 := Bool.eq_false_iff.mpr c22
     subst c22
     have H1 : (folkmootlaw15_ContentApart.j0 k true a0_0 a0_1 a0_2 a0_3 l0_4 a1_0 a1_1 a1_2 a1_3 l1_4 l2_0 l2_1 a2_2 a2_3 a2_4 l3_0 l3_1 a3_2 a3_3 a3_4) = some r := by rw [if_neg (show ¬ (false = true) by decide)] at H; exact H
     clear H
     have H := H1
     clear H1
     have H' := Aside0.mk H
     clear H
     go_wp2_with (first | ((with_reducible refine gate_callee (f := 22) rfl ?_); refine goesL_ (some 17) rfl rfl Try.func22 (by kernel_rfl) rfl #[] rfl za_ ?_; (with_reducible refine (folkmootlaw15_awake.calls  true _ A10.out).mono ?_); rintro e w73 ⟨rfl, hb⟩; refine ⟨_, rfl, ?_⟩; have n0_ := zk_ BK262 hb; have n1_ := zk_ BK263 hb; have n2_ := zk_ BK264 hb; have n3_ := zk_ BK265 hb; have n4_ := Aside0.mk (below_step zb_ hb); clear BK262; clear BK263; clear BK264; clear BK265; clear HB; have BK262 := n0_; have BK263 := n1_; have BK264 := n2_; have BK265 := n3_; have HB := n4_; clear n0_ n1_ n2_ n3_ n4_; (try clear hb); (try clear hb2); (try clear hk); (try clear hi); have hnb74 := NB264_262.out; have hnc74 := NB262_264.out; have hnb75 := NB264_263.out; have hnc75 := NB263_264.out; have hnb76 := NB264_265.out; have hnc76 := NB265_264.out; have hcz77_0 : w73.cell? ⟨gb264, 0, none⟩ = some (.slice A2_0 l2_0.length c2_0) := (blk_cell BK264.out 0).trans rfl; have hcz77_1 : w73.cell? ⟨gb264, 1, none⟩ = some (.slice A2_1 l2_1.length c2_1) := (blk_cell BK264.out 1).trans rfl; have hcz77_2 : w73.cell? ⟨gb264, 2, none⟩ = some (.int .i64 a2_2) := (blk_cell BK264.out 2).trans rfl; have hcz77_3 : w73.cell? ⟨gb264, 3, none⟩ = some (.int .u64 a2_3) := (blk_cell BK264.out 3).trans rfl; have hcz77_4 : w73.cell? ⟨gb264, 4, none⟩ = some (.int .i64 a2_4) := (blk_cell BK264.out 4).trans rfl; have hfz77_0 := blk_frozen BK264.out 0; have hfz77_1 := blk_frozen BK264.out 1; have hfz77_2 := blk_frozen BK264.out 2; have hfz77_3 := blk_frozen BK264.out 3; have hfz77_4 := blk_frozen BK264.out 4; have hnb78 := NB265_262.out; have hnc78 := NB262_265.out; have hnb79 := NB265_263.out; have hnc79 := NB263_265.out; have hcz80_0 : w73.cell? ⟨gb265, 0, none⟩ = some (.slice A3_0 l3_0.length c3_0) := (blk_cell BK265.out 0).trans rfl; have hcz80_1 : w73.cell? ⟨gb265, 1, none⟩ = some (.slice A3_1 l3_1.length c3_1) := (blk_cell BK265.out 1).trans rfl; have hcz80_2 : w73.cell? ⟨gb265, 2, none⟩ = some (.int .i64 a3_2) := (blk_cell BK265.out 2).trans rfl; have hcz80_3 : w73.cell? ⟨gb265, 3, none⟩ = some (.int .u64 a3_3) := (blk_cell BK265.out 3).trans rfl; have hcz80_4 : w73.cell? ⟨gb265, 4, none⟩ = some (.int .i64 a3_4) := (blk_cell BK265.out 4).trans rfl; have hfz80_0 := blk_frozen BK265.out 0; have hfz80_1 := blk_frozen BK265.out 1; have hfz80_2 := blk_frozen BK265.out 2; have hfz80_3 := blk_frozen BK265.out 3; have hfz80_4 := blk_frozen BK265.out 4; have hnb81 := NB262_263.out; have hnc81 := NB263_262.out; have hcz82_0 : w73.cell? ⟨gb262, 0, none⟩ = some (.int .u64 a0_0) := (blk_cell BK262.out 0).trans rfl; have hcz82_1 : w73.cell? ⟨gb262, 1, none⟩ = some (.int .i64 a0_1) := (blk_cell BK262.out 1).trans rfl; have hcz82_2 : w73.cell? ⟨gb262, 2, none⟩ = some (.int .u64 a0_2) := (blk_cell BK262.out 2).trans rfl; have hcz82_3 : w73.cell? ⟨gb262, 3, none⟩ = some (.int .i64 a0_3) := (blk_cell BK262.out 3).trans rfl; have hcz82_4 : w73.cell? ⟨gb262, 4, none⟩ = some (.slice A0_4 l0_4.length c0_4) := (blk_cell BK262.out 4).trans rfl; have hfz82_0 := blk_frozen BK262.out 0; have hfz82_1 := blk_frozen BK262.out 1; have hfz82_2 := blk_frozen BK262.out 2; have hfz82_3 := blk_frozen BK262.out 3; have hfz82_4 := blk_frozen BK262.out 4) | (go_at_call 44; (with_reducible refine (folkmootref15_Form.calls a0_0 a0_1 a0_2 a0_3 _ _ l0_4 false _ ?side1 ?side2 A21.out).mono ?_); (case side1 => exact zc_ HR0_4 HB); (case side2 => exact HC0_4.out); rintro e w83 ⟨rfl, hb⟩; have n0_ := zk_ BK262 hb; have n1_ := zk_ BK263 hb; have n2_ := zk_ BK264 hb; have n3_ := zk_ BK265 hb; have n4_ := Aside0.mk (below_step zb_ hb); clear BK262; clear BK263; clear BK264; clear BK265; clear HB; have BK262 := n0_; have BK263 := n1_; have BK264 := n2_; have BK265 := n3_; have HB := n4_; clear n0_ n1_ n2_ n3_ n4_; (try clear hb); (try clear hb2); (try clear hk); (try clear hi)))
     go_meet
     case rel => exact ⟨_, (true), (by first | rfl | (simp; done) | (simp [*]; done)), H', ⟨by first | omega | exact Nat.le_refl _⟩, ⟨by (with_reducible repeat (first | refine blk_drewN ?_ _ | refine blk_drew ?_ | refine blk_alloc ?_ _)); exact BK262.out⟩, ⟨by (with_reducible repeat (first | refine blk_drewN ?_ _ | refine blk_drew ?_ | refine blk_alloc ?_ _)); exact BK263.out⟩, ⟨by (with_reducible repeat (first | refine blk_drewN ?_ _ | refine blk_drew ?_ | refine blk_alloc ?_ _)); exact BK264.out⟩, ⟨by (with_reducible repeat (first | refine blk_drewN ?_ _ | refine blk_drew ?_ | refine blk_alloc ?_ _)); exact BK265.out⟩, ⟨by repeat (first | (with_reducible first | exact HB.out | apply below_alloc | apply pw_below_drewN | apply below_drew1 | refine below_set ?_ GE262.out | refine below_set ?_ GE263.out | refine below_set ?_ GE264.out | refine below_set ?_ GE265.out) | exact HB.out)⟩⟩
  ·
   replace c11 := Bool.eq_false_iff.mpr c11
   subst c11
   have H1 : (folkmootlaw15_ContentApart.j0 k true a0_0 a0_1 a0_2 a0_3 l0_4 a1_0 a1_1 a1_2 a1_3 l1_4 l2_0 l2_1 a2_2 a2_3 a2_4 l3_0 l3_1 a3_2 a3_3 a3_4) = some r := by rw [if_neg (show ¬ (false = true) by decide)] at H; exact H
   clear H
   have H := H1
   clear H1
   have H' := Aside0.mk H
   clear H
   go_wp2_with (first | ((with_reducible refine gate_callee (f := 22) rfl ?_); refine goesL_ (some 17) rfl rfl Try.func22 (by kernel_rfl) rfl #[] rfl za_ ?_; (with_reducible refine (folkmootlaw15_awake.calls  false _ A10.out).mono ?_); rintro e w84 ⟨rfl, hb⟩; refine ⟨_, rfl, ?_⟩; have n0_ := zk_ BK262 hb; have n1_ := zk_ BK263 hb; have n2_ := zk_ BK264 hb; have n3_ := zk_ BK265 hb; have n4_ := Aside0.mk (below_step zb_ hb); clear BK262; clear BK263; clear BK264; clear BK265; clear HB; have BK262 := n0_; have BK263 := n1_; have BK264 := n2_; have BK265 := n3_; have HB := n4_; clear n0_ n1_ n2_ n3_ n4_; (try clear hb); (try clear hb2); (try clear hk); (try clear hi)))
   go_meet
   case rel => exact ⟨_, (true), (by first | rfl | (simp; done) | (simp [*]; done)), H', ⟨by first | omega | exact Nat.le_refl _⟩, ⟨by (with_reducible repeat (first | refine blk_drewN ?_ _ | refine blk_drew ?_ | refine blk_alloc ?_ _)); exact BK262.out⟩, ⟨by (with_reducible repeat (first | refine blk_drewN ?_ _ | refine blk_drew ?_ | refine blk_alloc ?_ _)); exact BK263.out⟩, ⟨by (with_reducible repeat (first | refine blk_drewN ?_ _ | refine blk_drew ?_ | refine blk_alloc ?_ _)); exact BK264.out⟩, ⟨by (with_reducible repeat (first | refine blk_drewN ?_ _ | refine blk_drew ?_ | refine blk_alloc ?_ _)); exact BK265.out⟩, ⟨by repeat (first | (with_reducible first | exact HB.out | apply below_alloc | apply pw_below_drewN | apply below_drew1 | refine below_set ?_ GE262.out | refine below_set ?_ GE263.out | refine below_set ?_ GE264.out | refine below_set ?_ GE265.out) | exact HB.out)⟩⟩
 case rest =>
  clear HC5
  try clear c1
  try clear c2
  try clear p2
  try clear c3
  try clear c4
  try clear c5
  try clear c6
  try clear p6
  try clear c7
  try clear c8
  try clear c11
  try clear c12
  try clear c12b0
  try clear c14
  try clear c15
  try clear c16
  try clear c18
  try clear c19
  try clear c22
  try clear c24
  try clear c26
  try clear c29
  try clear c30
  try clear c31
  try clear c33
  try clear c34
  try clear c36
  try clear c46
  try clear c47
  try clear c48
  try clear c50
  try clear c51
  try clear c53
  try clear c61
  try clear c62
  try clear c63
  try clear p64
  try clear c65
  try clear c66
  try clear c68
  try clear c74
  try clear c75
  try clear c76
  try clear c78
  try clear c79
  try clear c81
  try clear hcz17_0
  try clear hcz17_1
  try clear hcz17_2
  try clear hcz17_3
  try clear hcz17_4
  try clear hcz20_0
  try clear hcz20_1
  try clear hcz20_2
  try clear hcz20_3
  try clear hcz20_4
  try clear hcz32_0
  try clear hcz32_1
  try clear hcz32_2
  try clear hcz32_3
  try clear hcz32_4
  try clear hcz35_0
  try clear hcz35_1
  try clear hcz35_2
  try clear hcz35_3
  try clear hcz35_4
  try clear hcz37_0
  try clear hcz37_1
  try clear hcz37_2
  try clear hcz37_3
  try clear hcz37_4
  try clear hcz39_0
  try clear hcz39_1
  try clear hcz39_2
  try clear hcz39_3
  try clear hcz39_4
  try clear hcz41_0
  try clear hcz41_1
  try clear hcz41_2
  try clear hcz41_3
  try clear hcz41_4
  try clear hcz43_0
  try clear hcz43_1
  try clear hcz43_2
  try clear hcz43_3
  try clear hcz43_4
  try clear hcz49_0
  try clear hcz49_1
  try clear hcz49_2
  try clear hcz49_3
  try clear hcz49_4
  try clear hcz52_0
  try clear hcz52_1
  try clear hcz52_2
  try clear hcz52_3
  try clear hcz52_4
  try clear hcz54_0
  try clear hcz54_1
  try clear hcz54_2
  try clear hcz54_3
  try clear hcz54_4
  try clear hcz56_0
  try clear hcz56_1
  try clear hcz56_2
  try clear hcz56_3
  try clear hcz56_4
  try clear hcz58_0
  try clear hcz58_1
  try clear hcz58_2
  try clear hcz58_3
  try clear hcz58_4
  try clear hcz64_0
  try clear hcz64_1
  try clear hcz64_2
  try clear hcz64_3
  try clear hcz64_4
  try clear hcz67_0
  try clear hcz67_1
  try clear hcz67_2
  try clear hcz67_3
  try clear hcz67_4
  try clear hcz69_0
  try clear hcz69_1
  try clear hcz69_2
  try clear hcz69_3
  try clear hcz69_4
  try clear hcz71_0
  try clear hcz71_1
  try clear hcz71_2
  try clear hcz71_3
  try clear hcz71_4
  try clear hcz77_0
  try clear hcz77_1
  try clear hcz77_2
  try clear hcz77_3
  try clear hcz77_4
  try clear hcz80_0
  try clear hcz80_1
  try clear hcz80_2
  try clear hcz80_3
  try clear hcz80_4
  try clear hcz82_0
  try clear hcz82_1
  try clear hcz82_2
  try clear hcz82_3
  try clear hcz82_4
  try clear hfz17_0
  try clear hfz17_1
  try clear hfz17_2
  try clear hfz17_3
  try clear hfz17_4
  try clear hfz20_0
  try clear hfz20_1
  try clear hfz20_2
  try clear hfz20_3
  try clear hfz20_4
  try clear hfz32_0
  try clear hfz32_1
  try clear hfz32_2
  try clear hfz32_3
  try clear hfz32_4
  try clear hfz35_0
  try clear hfz35_1
  try clear hfz35_2
  try clear hfz35_3
  try clear hfz35_4
  try clear hfz37_0
  try clear hfz37_1
  try clear hfz37_2
  try clear hfz37_3
  try clear hfz37_4
  try clear hfz39_0
  try clear hfz39_1
  try clear hfz39_2
  try clear hfz39_3
  try clear hfz39_4
  try clear hfz41_0
  try clear hfz41_1
  try clear hfz41_2
  try clear hfz41_3
  try clear hfz41_4
  try clear hfz43_0
  try clear hfz43_1
  try clear hfz43_2
  try clear hfz43_3
  try clear hfz43_4
  try clear hfz49_0
  try clear hfz49_1
  try clear hfz49_2
  try clear hfz49_3
  try clear hfz49_4
  try clear hfz52_0
  try clear hfz52_1
  try clear hfz52_2
  try clear hfz52_3
  try clear hfz52_4
  try clear hfz54_0
  try clear hfz54_1
  try clear hfz54_2
  try clear hfz54_3
  try clear hfz54_4
  try clear hfz56_0
  try clear hfz56_1
  try clear hfz56_2
  try clear hfz56_3
  try clear hfz56_4
  try clear hfz58_0
  try clear hfz58_1
  try clear hfz58_2
  try clear hfz58_3
  try clear hfz58_4
  try clear hfz64_0
  try clear hfz64_1
  try clear hfz64_2
  try clear hfz64_3
  try clear hfz64_4
  try clear hfz67_0
  try clear hfz67_1
  try clear hfz67_2
  try clear hfz67_3
  try clear hfz67_4
  try clear hfz69_0
  try clear hfz69_1
  try clear hfz69_2
  try clear hfz69_3
  try clear hfz69_4
  try clear hfz71_0
  try clear hfz71_1
  try clear hfz71_2
  try clear hfz71_3
  try clear hfz71_4
  try clear hfz77_0
  try clear hfz77_1
  try clear hfz77_2
  try clear hfz77_3
  try clear hfz77_4
  try clear hfz80_0
  try clear hfz80_1
  try clear hfz80_2
  try clear hfz80_3
  try clear hfz80_4
  try clear hfz82_0
  try clear hfz82_1
  try clear hfz82_2
  try clear hfz82_3
  try clear hfz82_4
  obtain ⟨kq, x56_4, rfl, HA, HJ4, BK262, BK263, BK264, BK265, HB⟩ := hcut
  cases kq with
  | zero => exact absurd HA.out (by simp [folkmootlaw15_ContentApart.j0])
  | succ kj4 =>
   have H := HA.out
   clear HA
   simp only [folkmootlaw15_ContentApart.j0] at H
   by_cases c85 : x56_4 = true
   ·
    subst c85
    have H1 : ((folkmootlaw15_awake.f).bind fun t271 => (some t271)) = some r := by rw [if_pos rfl] at H; exact H
    clear H
    have H := H1
    clear H1
    replace H := Option.bind_eq_some_iff.mp H
    obtain ⟨t271, A860, H⟩ := H
    replace H : (some t271) = some r := H
    have A86 := Aside0.mk A860
    clear A860
    obtain rfl := Option.some.inj H
    go_wp2_with (first | ((with_reducible refine gate_callee (f := 22) rfl ?_); refine goesL_ (some 57) rfl rfl Try.func22 (by kernel_rfl) rfl #[] rfl za_ ?_; (with_reducible refine (folkmootlaw15_awake.calls  t271 _ A86.out).mono ?_); rintro e w87 ⟨rfl, hb⟩; refine ⟨_, rfl, ?_⟩; have n0_ := zk_ BK262 hb; have n1_ := zk_ BK263 hb; have n2_ := zk_ BK264 hb; have n3_ := zk_ BK265 hb; have n4_ := Aside0.mk (below_step zb_ hb); clear BK262; clear BK263; clear BK264; clear BK265; clear HB; have BK262 := n0_; have BK263 := n1_; have BK264 := n2_; have BK265 := n3_; have HB := n4_; clear n0_ n1_ n2_ n3_ n4_; (try clear hb); (try clear hb2); (try clear hk); (try clear hi)))
    go_ret
    exact ⟨by first | rfl | (simp [errW_none, errW_some] <;> rfl) | (simp [*, errW_none, errW_some] <;> rfl), by repeat (first | (with_reducible first | exact HB.out | apply below_alloc | apply pw_below_drewN | apply below_drew1 | refine below_set ?_ GE262.out | refine below_set ?_ GE263.out | refine below_set ?_ GE264.out | refine below_set ?_ GE265.out) | exact HB.out)⟩
   ·
    replace c85 := Bool.eq_false_iff.mpr c85
    subst c85
    have H1 : ((content_EncodeOne.f kj4 a0_0 a0_1 a0_2 a0_3 l0_4).bind fun bt272 => ((content_EncodeOne.f kj4 a1_0 a1_1 a1_2 a1_3 l1_4).bind fun bt276 => ((content_EncodeAll.f kj4 l2_0 l2_1 a2_2 a2_3 a2_4).bind fun bt280 => ((content_EncodeAll.f kj4 l3_0 l3_1 a3_2 a3_3 a3_4).bind fun bt284 => (if bt272.2 = 0 then (if bt276.2 = 0 then (if bt280.2 = 0 then (if bt284.2 = 0 then (if (strOfNums bt272.1).toList = (strOfNums bt280.1).toList then (some false) else (if ((a0_0 == a1_0 && (a0_1 == a1_1)) && (a0_2 == a1_2 && (a0_3 == a1_3))) = true then (if (((strOfNums bt272.1).toList == (strOfNums bt276.1).toList) == ((strOfNums l0_4).toList == (strOfNums l1_4).toList)) = true then ((folkmootref15_Alike.f kj4 l2_0 l2_1 a2_2 a2_3 a2_4 l3_0 l3_1 a3_2 a3_3 a3_4).bind fun t288 => (some (((strOfNums bt280.1).toList == (strOfNums bt284.1).toList) == t288))) else (some false)) else (if (((strOfNums bt272.1).toList == (strOfNums bt276.1).toList) == false) = true then ((folkmootref15_Alike.f kj4 l2_0 l2_1 a2_2 a2_3 a2_4 l3_0 l3_1 a3_2 a3_3 a3_4).bind fun t289 => (some (((strOfNums bt280.1).toList == (strOfNums bt284.1).toList) == t289))) else (some false)))) else (some false)) else (some false)) else (some false)) else (some false)))))) = some r := by rw [if_neg (show ¬ (false = true) by decide)] at H; exact H
    clear H
    have H := H1
    clear H1
    replace H := Option.bind_eq_some_iff.mp H
    obtain ⟨⟨t272, t275⟩, A880, H⟩ := H
    replace H : ((content_EncodeOne.f kj4 a1_0 a1_1 a1_2 a1_3 l1_4).bind fun bt276 => ((content_EncodeAll.f kj4 l2_0 l2_1 a2_2 a2_3 a2_4).bind fun bt280 => ((content_EncodeAll.f kj4 l3_0 l3_1 a3_2 a3_3 a3_4).bind fun bt284 => (if t275 = 0 then (if bt276.2 = 0 then (if bt280.2 = 0 then (if bt284.2 = 0 then (if (strOfNums t272).toList = (strOfNums bt280.1).toList then (some false) else (if ((a0_0 == a1_0 && (a0_1 == a1_1)) && (a0_2 == a1_2 && (a0_3 == a1_3))) = true then (if (((strOfNums t272).toList == (strOfNums bt276.1).toList) == ((strOfNums l0_4).toList == (strOfNums l1_4).toList)) = true then ((folkmootref15_Alike.f kj4 l2_0 l2_1 a2_2 a2_3 a2_4 l3_0 l3_1 a3_2 a3_3 a3_4).bind fun t288 => (some (((strOfNums bt280.1).toList == (strOfNums bt284.1).toList) == t288))) else (some false)) else (if (((strOfNums t272).toList == (strOfNums bt276.1).toList) == false) = true then ((folkmootref15_Alike.f kj4 l2_0 l2_1 a2_2 a2_3 a2_4 l3_0 l3_1 a3_2 a3_3 a3_4).bind fun t289 => (some (((strOfNums bt280.1).toList == (strOfNums bt284.1).toList) == t289))) else (some false)))) else (some false)) else (some false)) else (some false)) else (some false))))) = some r := H
    have A88 := Aside0.mk A880
    clear A880
    replace H := Option.bind_eq_some_iff.mp H
    obtain ⟨⟨t276, t279⟩, A890, H⟩ := H
    replace H : ((content_EncodeAll.f kj4 l2_0 l2_1 a2_2 a2_3 a2_4).bind fun bt280 => ((content_EncodeAll.f kj4 l3_0 l3_1 a3_2 a3_3 a3_4).bind fun bt284 => (if t275 = 0 then (if t279 = 0 then (if bt280.2 = 0 then (if bt284.2 = 0 then (if (strOfNums t272).toList = (strOfNums bt280.1).toList then (some false) else (if ((a0_0 == a1_0 && (a0_1 == a1_1)) && (a0_2 == a1_2 && (a0_3 == a1_3))) = true then (if (((strOfNums t272).toList == (strOfNums t276).toList) == ((strOfNums l0_4).toList == (strOfNums l1_4).toList)) = true then ((folkmootref15_Alike.f kj4 l2_0 l2_1 a2_2 a2_3 a2_4 l3_0 l3_1 a3_2 a3_3 a3_4).bind fun t288 => (some (((strOfNums bt280.1).toList == (strOfNums bt284.1).toList) == t288))) else (some false)) else (if (((strOfNums t272).toList == (strOfNums t276).toList) == false) = true then ((folkmootref15_Alike.f kj4 l2_0 l2_1 a2_2 a2_3 a2_4 l3_0 l3_1 a3_2 a3_3 a3_4).bind fun t289 => (some (((strOfNums bt280.1).toList == (strOfNums bt284.1).toList) == t289))) else (some false)))) else (some false)) else (some false)) else (some false)) else (some false)))) = some r := H
    have A89 := Aside0.mk A890
    clear A890
    replace H := Option.bind_eq_some_iff.mp H
    obtain ⟨⟨t280, t283⟩, A900, H⟩ := H
    replace H : ((content_EncodeAll.f kj4 l3_0 l3_1 a3_2 a3_3 a3_4).bind fun bt284 => (if t275 = 0 then (if t279 = 0 then (if t283 = 0 then (if bt284.2 = 0 then (if (strOfNums t272).toList = (strOfNums t280).toList then (some false) else (if ((a0_0 == a1_0 && (a0_1 == a1_1)) && (a0_2 == a1_2 && (a0_3 == a1_3))) = true then (if (((strOfNums t272).toList == (strOfNums t276).toList) == ((strOfNums l0_4).toList == (strOfNums l1_4).toList)) = true then ((folkmootref15_Alike.f kj4 l2_0 l2_1 a2_2 a2_3 a2_4 l3_0 l3_1 a3_2 a3_3 a3_4).bind fun t288 => (some (((strOfNums t280).toList == (strOfNums bt284.1).toList) == t288))) else (some false)) else (if (((strOfNums t272).toList == (strOfNums t276).toList) == false) = true then ((folkmootref15_Alike.f kj4 l2_0 l2_1 a2_2 a2_3 a2_4 l3_0 l3_1 a3_2 a3_3 a3_4).bind fun t289 => (some (((strOfNums t280).toList == (strOfNums bt284.1).toList) == t289))) else (some false)))) else (some false)) else (some false)) else (some false)) else (some false))) = some r := H
    have A90 := Aside0.mk A900
    clear A900
    replace H := Option.bind_eq_some_iff.mp H
    obtain ⟨⟨t284, t287⟩, A910, H⟩ := H
    replace H : (if t275 = 0 then (if t279 = 0 then (if t283 = 0 then (if t287 = 0 then (if (strOfNums t272).toList = (strOfNums t280).toList then (some false) else (if ((a0_0 == a1_0 && (a0_1 == a1_1)) && (a0_2 == a1_2 && (a0_3 == a1_3))) = true then (if (((strOfNums t272).toList == (strOfNums t276).toList) == ((strOfNums l0_4).toList == (strOfNums l1_4).toList)) = true then ((folkmootref15_Alike.f kj4 l2_0 l2_1 a2_2 a2_3 a2_4 l3_0 l3_1 a3_2 a3_3 a3_4).bind fun t288 => (some (((strOfNums t280).toList == (strOfNums t284).toList) == t288))) else (some false)) else (if (((strOfNums t272).toList == (strOfNums t276).toList) == false) = true then ((folkmootref15_Alike.f kj4 l2_0 l2_1 a2_2 a2_3 a2_4 l3_0 l3_1 a3_2 a3_3 a3_4).bind fun t289 => (some (((strOfNums t280).toList == (strOfNums t284).toList) == t289))) else (some false)))) else (some false)) else (some false)) else (some false)) else (some false)) = some r := H
    have A91 := Aside0.mk A910
    clear A910
    by_cases c92 : t275 = 0
    ·
     rw [if_pos c92] at H
     have c92b0 : (t275 == 0) = true := beq_iff_eq.mpr c92
     have c92b1 : (t275 != 0) = false := bne_eq_false_iff_eq.mpr c92
     clear c92
     by_cases c93 : t279 = 0
     ·
      rw [if_pos c93] at H
      have c93b0 : (t279 == 0) = true := beq_iff_eq.mpr c93
      have c93b1 : (t279 != 0) = false := bne_eq_false_iff_eq.mpr c93
      clear c93
      by_cases c94 : t283 = 0
      ·
       rw [if_pos c94] at H
       have c94b0 : (t283 == 0) = true := beq_iff_eq.mpr c94
       have c94b1 : (t283 != 0) = false := bne_eq_false_iff_eq.mpr c94
       clear c94
       by_cases c95 : t287 = 0
       ·
        rw [if_pos c95] at H
        have c95b0 : (t287 == 0) = true := beq_iff_eq.mpr c95
        have c95b1 : (t287 != 0) = false := bne_eq_false_iff_eq.mpr c95
        clear c95
        by_cases c96 : (strOfNums t272).toList = (strOfNums t280).toList
        ·
         rw [if_pos c96] at H
         have c96b0 : ((strOfNums t272).toList == (strOfNums t280).toList) = true := beq_iff_eq.mpr c96
         have c96b1 : ((strOfNums t272).toList != (strOfNums t280).toList) = false := bne_eq_false_iff_eq.mpr c96
         clear c96
         obtain rfl := Option.some.inj H
         have hnb97 := NB262_263.out
         have hnc97 := NB263_262.out
         have hnb98 := NB262_264.out
         have hnc98 := NB264_262.out
         have hnb99 := NB262_265.out
         have hnc99 := NB265_262.out
         have hcz100_0 : wc.cell? ⟨gb262, 0, none⟩ = some (.int .u64 a0_0) := (blk_cell BK262.out 0).trans rfl
         have hcz100_1 : wc.cell? ⟨gb262, 1, none⟩ = some (.int .i64 a0_1) := (blk_cell BK262.out 1).trans rfl
         have hcz100_2 : wc.cell? ⟨gb262, 2, none⟩ = some (.int .u64 a0_2) := (blk_cell BK262.out 2).trans rfl
         have hcz100_3 : wc.cell? ⟨gb262, 3, none⟩ = some (.int .i64 a0_3) := (blk_cell BK262.out 3).trans rfl
         have hcz100_4 : wc.cell? ⟨gb262, 4, none⟩ = some (.slice A0_4 l0_4.length c0_4) := (blk_cell BK262.out 4).trans rfl
         have hfz100_0 := blk_frozen BK262.out 0
         have hfz100_1 := blk_frozen BK262.out 1
         have hfz100_2 := blk_frozen BK262.out 2
         have hfz100_3 := blk_frozen BK262.out 3
         have hfz100_4 := blk_frozen BK262.out 4
         go_wp2_with (first | ((with_reducible refine gate_callee (f := 46) rfl ?_); refine goesL_ (some 60) rfl rfl Try.func46 (by kernel_rfl) rfl #[.agg #[.int .u64 a0_0, .int .i64 a0_1, .int .u64 a0_2, .int .i64 a0_3, .slice A0_4 l0_4.length c0_4]] rfl za_ ?_; (with_reducible refine (content_EncodeOne.calls kj4 a0_0 a0_1 a0_2 a0_3 _ _ l0_4 t272 t275 _ ?side1 ?side2 A88.out).mono ?_); (case side1 => exact zc_ HR0_4 HB); (case side2 => exact HC0_4.out); rintro e w101 ⟨v273, rfl, ho0, hb⟩; refine ⟨_, rfl, ?_⟩; have n0_ := Aside0.mk (Kd.R_lower ho0 (below_size zb_)); have n1_ := zk_ BK262 hb; have n2_ := zk_ BK263 hb; have n3_ := zk_ BK264 hb; have n4_ := zk_ BK265 hb; have n5_ := Aside0.mk (below_step zb_ hb); clear BK262; clear BK263; clear BK264; clear BK265; clear HB; have HO274 := n0_; have BK262 := n1_; have BK263 := n2_; have BK264 := n3_; have BK265 := n4_; have HB := n5_; clear n0_ n1_ n2_ n3_ n4_ n5_; (try clear hb); (try clear hb2); (try clear hk); (try clear hi); (try clear ho0); have hnb102 := NB263_264.out; have hnc102 := NB264_263.out; have hnb103 := NB263_265.out; have hnc103 := NB265_263.out; have hcz104_0 : w101.cell? ⟨gb263, 0, none⟩ = some (.int .u64 a1_0) := (blk_cell BK263.out 0).trans rfl; have hcz104_1 : w101.cell? ⟨gb263, 1, none⟩ = some (.int .i64 a1_1) := (blk_cell BK263.out 1).trans rfl; have hcz104_2 : w101.cell? ⟨gb263, 2, none⟩ = some (.int .u64 a1_2) := (blk_cell BK263.out 2).trans rfl; have hcz104_3 : w101.cell? ⟨gb263, 3, none⟩ = some (.int .i64 a1_3) := (blk_cell BK263.out 3).trans rfl; have hcz104_4 : w101.cell? ⟨gb263, 4, none⟩ = some (.slice A1_4 l1_4.length c1_4) := (blk_cell BK263.out 4).trans rfl; have hfz104_0 := blk_frozen BK263.out 0; have hfz104_1 := blk_frozen BK263.out 1; have hfz104_2 := blk_frozen BK263.out 2; have hfz104_3 := blk_frozen BK263.out 3; have hfz104_4 := blk_frozen BK263.out 4) | ((with_reducible refine gate_callee (f := 46) rfl ?_); refine goesL_ (some 65) rfl rfl Try.func46 (by kernel_rfl) rfl #[.agg #[.int .u64 a1_0, .int .i64 a1_1, .int .u64 a1_2, .int .i64 a1_3, .slice A1_4 l1_4.length c1_4]] rfl za_ ?_; (with_reducible refine (content_EncodeOne.calls kj4 a1_0 a1_1 a1_2 a1_3 _ _ l1_4 t276 t279 _ ?side1 ?side2 A89.out).mono ?_); (case side1 => exact zc_ HR1_4 HB); (case side2 => exact HC1_4.out); rintro e w105 ⟨v277, rfl, ho0, hb⟩; refine ⟨_, rfl, ?_⟩; have n0_ := Aside0.mk (Kd.R_elder' (zr_ HO274) (Kd.R_base ho0) hb); have n1_ := Aside0.mk (Kd.R_lower (Kd.R_new' ho0 (Kd.R_lt (zr_ HO274))) (below_size zb_)); have n2_ := zk_ BK262 hb; have n3_ := zk_ BK263 hb; have n4_ := zk_ BK264 hb; have n5_ := zk_ BK265 hb; have n6_ := Aside0.mk (below_step zb_ hb); clear HO274; clear BK262; clear BK263; clear BK264; clear BK265; clear HB; have HO274 := n0_; have HO278 := n1_; have BK262 := n2_; have BK263 := n3_; have BK264 := n4_; have BK265 := n5_; have HB := n6_; clear n0_ n1_ n2_ n3_ n4_ n5_ n6_; (try clear hb); (try clear hb2); (try clear hk); (try clear hi); (try clear ho0); have hnb106 := NB264_265.out; have hnc106 := NB265_264.out; have hcz107_0 : w105.cell? ⟨gb264, 0, none⟩ = some (.slice A2_0 l2_0.length c2_0) := (blk_cell BK264.out 0).trans rfl; have hcz107_1 : w105.cell? ⟨gb264, 1, none⟩ = some (.slice A2_1 l2_1.length c2_1) := (blk_cell BK264.out 1).trans rfl; have hcz107_2 : w105.cell? ⟨gb264, 2, none⟩ = some (.int .i64 a2_2) := (blk_cell BK264.out 2).trans rfl; have hcz107_3 : w105.cell? ⟨gb264, 3, none⟩ = some (.int .u64 a2_3) := (blk_cell BK264.out 3).trans rfl; have hcz107_4 : w105.cell? ⟨gb264, 4, none⟩ = some (.int .i64 a2_4) := (blk_cell BK264.out 4).trans rfl; have hfz107_0 := blk_frozen BK264.out 0; have hfz107_1 := blk_frozen BK264.out 1; have hfz107_2 := blk_frozen BK264.out 2; have hfz107_3 := blk_frozen BK264.out 3; have hfz107_4 := blk_frozen BK264.out 4) | ((with_reducible refine gate_callee (f := 47) rfl ?_); refine goesL_ (some 70) rfl rfl Try.func47 (by kernel_rfl) rfl #[.agg #[.slice A2_0 l2_0.length c2_0, .slice A2_1 l2_1.length c2_1, .int .i64 a2_2, .int .u64 a2_3, .int .i64 a2_4]] rfl za_ ?_; (with_reducible refine (content_EncodeAll.calls kj4 _ _ l2_0 _ _ l2_1 a2_2 a2_3 a2_4 t280 t283 _ ?side1 ?side2 ?side3 ?side4 A90.out).mono ?_); (case side1 => exact zc_ HR2_0 HB); (case side2 => exact HC2_0.out); (case side3 => exact zc_ HR2_1 HB); (case side4 => exact HC2_1.out); rintro e w108 ⟨v281, rfl, ho0, hb⟩; refine ⟨_, rfl, ?_⟩; have n0_ := Aside0.mk (Kd.R_elder' (zr_ HO274) (Kd.R_base ho0) hb); have n1_ := Aside0.mk (Kd.R_elder' (zr_ HO278) (Kd.R_base ho0) hb); have n2_ := Aside0.mk (Kd.R_lower (Kd.R_new' (Kd.R_new' ho0 (Kd.R_lt (zr_ HO274))) (Kd.R_lt (zr_ HO278))) (below_size zb_)); have n3_ := zk_ BK262 hb; have n4_ := zk_ BK263 hb; have n5_ := zk_ BK264 hb; have n6_ := zk_ BK265 hb; have n7_ := Aside0.mk (below_step zb_ hb); clear HO274; clear HO278; clear BK262; clear BK263; clear BK264; clear BK265; clear HB; have HO274 := n0_; have HO278 := n1_; have HO282 := n2_; have BK262 := n3_; have BK263 := n4_; have BK264 := n5_; have BK265 := n6_; have HB := n7_; clear n0_ n1_ n2_ n3_ n4_ n5_ n6_ n7_; (try clear hb); (try clear hb2); (try clear hk); (try clear hi); (try clear ho0); have hcz109_0 : w108.cell? ⟨gb265, 0, none⟩ = some (.slice A3_0 l3_0.length c3_0) := (blk_cell BK265.out 0).trans rfl; have hcz109_1 : w108.cell? ⟨gb265, 1, none⟩ = some (.slice A3_1 l3_1.length c3_1) := (blk_cell BK265.out 1).trans rfl; have hcz109_2 : w108.cell? ⟨gb265, 2, none⟩ = some (.int .i64 a3_2) := (blk_cell BK265.out 2).trans rfl; have hcz109_3 : w108.cell? ⟨gb265, 3, none⟩ = some (.int .u64 a3_3) := (blk_cell BK265.out 3).trans rfl; have hcz109_4 : w108.cell? ⟨gb265, 4, none⟩ = some (.int .i64 a3_4) := (blk_cell BK265.out 4).trans rfl; have hfz109_0 := blk_frozen BK265.out 0; have hfz109_1 := blk_frozen BK265.out 1; have hfz109_2 := blk_frozen BK265.out 2; have hfz109_3 := blk_frozen BK265.out 3; have hfz109_4 := blk_frozen BK265.out 4) | ((with_reducible refine gate_callee (f := 47) rfl ?_); refine goesL_ (some 75) rfl rfl Try.func47 (by kernel_rfl) rfl #[.agg #[.slice A3_0 l3_0.length c3_0, .slice A3_1 l3_1.length c3_1, .int .i64 a3_2, .int .u64 a3_3, .int .i64 a3_4]] rfl za_ ?_; (with_reducible refine (content_EncodeAll.calls kj4 _ _ l3_0 _ _ l3_1 a3_2 a3_3 a3_4 t284 t287 _ ?side1 ?side2 ?side3 ?side4 A91.out).mono ?_); (case side1 => exact zc_ HR3_0 HB); (case side2 => exact HC3_0.out); (case side3 => exact zc_ HR3_1 HB); (case side4 => exact HC3_1.out); rintro e w110 ⟨v285, rfl, ho0, hb⟩; refine ⟨_, rfl, ?_⟩; have n0_ := Aside0.mk (Kd.R_elder' (zr_ HO274) (Kd.R_base ho0) hb); have n1_ := Aside0.mk (Kd.R_elder' (zr_ HO278) (Kd.R_base ho0) hb); have n2_ := Aside0.mk (Kd.R_elder' (zr_ HO282) (Kd.R_base ho0) hb); have n3_ := Aside0.mk (Kd.R_lower (Kd.R_new' (Kd.R_new' (Kd.R_new' ho0 (Kd.R_lt (zr_ HO274))) (Kd.R_lt (zr_ HO278))) (Kd.R_lt (zr_ HO282))) (below_size zb_)); have n4_ := zk_ BK262 hb; have n5_ := zk_ BK263 hb; have n6_ := zk_ BK264 hb; have n7_ := zk_ BK265 hb; have n8_ := Aside0.mk (below_step zb_ hb); clear HO274; clear HO278; clear HO282; clear BK262; clear BK263; clear BK264; clear BK265; clear HB; have HO274 := n0_; have HO278 := n1_; have HO282 := n2_; have HO286 := n3_; have BK262 := n4_; have BK263 := n5_; have BK264 := n6_; have BK265 := n7_; have HB := n8_; clear n0_ n1_ n2_ n3_ n4_ n5_ n6_ n7_ n8_; (try clear hb); (try clear hb2); (try clear hk); (try clear hi); (try clear ho0); have hcv111 := own_string (P := Try.prog) Try.underlying30 Try.underlying5 Try.underlying9 (Kd.own_of_R HO274.out); have hcv112 := own_string (P := Try.prog) Try.underlying30 Try.underlying5 Try.underlying9 (Kd.own_of_R HO282.out)))
         go_ret
         exact ⟨by first | rfl | (simp [errW_none, errW_some] <;> rfl) | (simp [*, errW_none, errW_some] <;> rfl), by repeat (first | (with_reducible first | exact HB.out | apply below_alloc | apply pw_below_drewN | apply below_drew1 | refine below_set ?_ GE262.out | refine below_set ?_ GE263.out | refine below_set ?_ GE264.out | refine below_set ?_ GE265.out) | exact HB.out)⟩
        ·
         rw [if_neg c96] at H
         have c96b0 : ((strOfNums t272).toList == (strOfNums t280).toList) = false := beq_eq_false_iff_ne.mpr c96
         have c96b1 : ((strOfNums t272).toList != (strOfNums t280).toList) = true := bne_iff_ne.mpr c96
         by_cases c113 : ((a0_0 == a1_0 && (a0_1 == a1_1)) && (a0_2 == a1_2 && (a0_3 == a1_3))) = true
         ·
          rw [if_pos c113] at H
          have c113b0 : ((a0_0 == a1_0 && (a0_1 == a1_1)) && (a0_2 == a1_2 && (a0_3 == a1_3))) = true := c113
          clear c113
          by_cases c114 : (((strOfNums t272).toList == (strOfNums t276).toList) == ((strOfNums l0_4).toList == (strOfNums l1_4).toList)) = true
          ·
           rw [if_pos c114] at H
           have c114b0 : (((strOfNums t272).toList == (strOfNums t276).toList) == ((strOfNums l0_4).toList == (strOfNums l1_4).toList)) = true := c114
           (try (have c114b1 : decide (((strOfNums t272).toList == (strOfNums t276).toList) = ((strOfNums l0_4).toList == (strOfNums l1_4).toList)) = true := by simpa using c114))
           (try (have c114b2 : (((strOfNums t272).toList == (strOfNums t276).toList) == ((strOfNums l0_4).toList == (strOfNums l1_4).toList)) = true := by simpa using c114))
           clear c114
           replace H := Option.bind_eq_some_iff.mp H
           obtain ⟨t288, A1150, H⟩ := H
           replace H : (some (((strOfNums t280).toList == (strOfNums t284).toList) == t288)) = some r := H
           have A115 := Aside0.mk A1150
           clear A1150
           obtain rfl := Option.some.inj H
           have hnb116 := NB262_263.out
           have hnc116 := NB263_262.out
           have hnb117 := NB262_264.out
           have hnc117 := NB264_262.out
           have hnb118 := NB262_265.out
           have hnc118 := NB265_262.out
           have hcz119_0 : wc.cell? ⟨gb262, 0, none⟩ = some (.int .u64 a0_0) := (blk_cell BK262.out 0).trans rfl
           have hcz119_1 : wc.cell? ⟨gb262, 1, none⟩ = some (.int .i64 a0_1) := (blk_cell BK262.out 1).trans rfl
           have hcz119_2 : wc.cell? ⟨gb262, 2, none⟩ = some (.int .u64 a0_2) := (blk_cell BK262.out 2).trans rfl
           have hcz119_3 : wc.cell? ⟨gb262, 3, none⟩ = some (.int .i64 a0_3) := (blk_cell BK262.out 3).trans rfl
           have hcz119_4 : wc.cell? ⟨gb262, 4, none⟩ = some (.slice A0_4 l0_4.length c0_4) := (blk_cell BK262.out 4).trans rfl
           have hfz119_0 := blk_frozen BK262.out 0
           have hfz119_1 := blk_frozen BK262.out 1
           have hfz119_2 := blk_frozen BK262.out 2
           have hfz119_3 := blk_frozen BK262.out 3
           have hfz119_4 := blk_frozen BK262.out 4
           try go_wp2_with (first | ((with_reducible refine gate_callee (f := 46) rfl ?_); refine goesL_ (some 60) rfl rfl Try.func46 (by kernel_rfl) rfl #[.agg #[.int .u64 a0_0, .int .i64 a0_1, .int .u64 a0_2, .int .i64 a0_3, .slice A0_4 l0_4.length c0_4]] rfl za_ ?_; (with_reducible refine (content_EncodeOne.calls kj4 a0_0 a0_1 a0_2 a0_3 _ _ l0_4 t272 t275 _ ?side1 ?side2 A88.out).mono ?_); (case side1 => exact zc_ HR0_4 HB); (case side2 => exact HC0_4.out); rintro e w120 ⟨v273, rfl, ho0, hb⟩; refine ⟨_, rfl, ?_⟩; have n0_ := Aside0.mk (Kd.R_lower ho0 (below_size zb_)); have n1_ := zk_ BK262 hb; have n2_ := zk_ BK263 hb; have n3_ := zk_ BK264 hb; have n4_ := zk_ BK265 hb; have n5_ := Aside0.mk (below_step zb_ hb); clear BK262; clear BK263; clear BK264; clear BK265; clear HB; have HO274 := n0_; have BK262 := n1_; have BK263 := n2_; have BK264 := n3_; have BK265 := n4_; have HB := n5_; clear n0_ n1_ n2_ n3_ n4_ n5_; (try clear hb); (try clear hb2); (try clear hk); (try clear hi); (try clear ho0); have hnb121 := NB263_264.out; have hnc121 := NB264_263.out; have hnb122 := NB263_265.out; have hnc122 := NB265_263.out; have hcz123_0 : w120.cell? ⟨gb263, 0, none⟩ = some (.int .u64 a1_0) := (blk_cell BK263.out 0).trans rfl; have hcz123_1 : w120.cell? ⟨gb263, 1, none⟩ = some (.int .i64 a1_1) := (blk_cell BK263.out 1).trans rfl; have hcz123_2 : w120.cell? ⟨gb263, 2, none⟩ = some (.int .u64 a1_2) := (blk_cell BK263.out 2).trans rfl; have hcz123_3 : w120.cell? ⟨gb263, 3, none⟩ = some (.int .i64 a1_3) := (blk_cell BK263.out 3).trans rfl; have hcz123_4 : w120.cell? ⟨gb263, 4, none⟩ = some (.slice A1_4 l1_4.length c1_4) := (blk_cell BK263.out 4).trans rfl; have hfz123_0 := blk_frozen BK263.out 0; have hfz123_1 := blk_frozen BK263.out 1; have hfz123_2 := blk_frozen BK263.out 2; have hfz123_3 := blk_frozen BK263.out 3; have hfz123_4 := blk_frozen BK263.out 4) | ((with_reducible refine gate_callee (f := 46) rfl ?_); refine goesL_ (some 65) rfl rfl Try.func46 (by kernel_rfl) rfl #[.agg #[.int .u64 a1_0, .int .i64 a1_1, .int .u64 a1_2, .int .i64 a1_3, .slice A1_4 l1_4.length c1_4]] rfl za_ ?_; (with_reducible refine (content_EncodeOne.calls kj4 a1_0 a1_1 a1_2 a1_3 _ _ l1_4 t276 t279 _ ?side1 ?side2 A89.out).mono ?_); (case side1 => exact zc_ HR1_4 HB); (case side2 => exact HC1_4.out); rintro e w124 ⟨v277, rfl, ho0, hb⟩; refine ⟨_, rfl, ?_⟩; have n0_ := Aside0.mk (Kd.R_elder' (zr_ HO274) (Kd.R_base ho0) hb); have n1_ := Aside0.mk (Kd.R_lower (Kd.R_new' ho0 (Kd.R_lt (zr_ HO274))) (below_size zb_)); have n2_ := zk_ BK262 hb; have n3_ := zk_ BK263 hb; have n4_ := zk_ BK264 hb; have n5_ := zk_ BK265 hb; have n6_ := Aside0.mk (below_step zb_ hb); clear HO274; clear BK262; clear BK263; clear BK264; clear BK265; clear HB; have HO274 := n0_; have HO278 := n1_; have BK262 := n2_; have BK263 := n3_; have BK264 := n4_; have BK265 := n5_; have HB := n6_; clear n0_ n1_ n2_ n3_ n4_ n5_ n6_; (try clear hb); (try clear hb2); (try clear hk); (try clear hi); (try clear ho0); have hnb125 := NB264_265.out; have hnc125 := NB265_264.out; have hcz126_0 : w124.cell? ⟨gb264, 0, none⟩ = some (.slice A2_0 l2_0.length c2_0) := (blk_cell BK264.out 0).trans rfl; have hcz126_1 : w124.cell? ⟨gb264, 1, none⟩ = some (.slice A2_1 l2_1.length c2_1) := (blk_cell BK264.out 1).trans rfl; have hcz126_2 : w124.cell? ⟨gb264, 2, none⟩ = some (.int .i64 a2_2) := (blk_cell BK264.out 2).trans rfl; have hcz126_3 : w124.cell? ⟨gb264, 3, none⟩ = some (.int .u64 a2_3) := (blk_cell BK264.out 3).trans rfl; have hcz126_4 : w124.cell? ⟨gb264, 4, none⟩ = some (.int .i64 a2_4) := (blk_cell BK264.out 4).trans rfl; have hfz126_0 := blk_frozen BK264.out 0; have hfz126_1 := blk_frozen BK264.out 1; have hfz126_2 := blk_frozen BK264.out 2; have hfz126_3 := blk_frozen BK264.out 3; have hfz126_4 := blk_frozen BK264.out 4) | ((with_reducible refine gate_callee (f := 47) rfl ?_); refine goesL_ (some 70) rfl rfl Try.func47 (by kernel_rfl) rfl #[.agg #[.slice A2_0 l2_0.length c2_0, .slice A2_1 l2_1.length c2_1, .int .i64 a2_2, .int .u64 a2_3, .int .i64 a2_4]] rfl za_ ?_; (with_reducible refine (content_EncodeAll.calls kj4 _ _ l2_0 _ _ l2_1 a2_2 a2_3 a2_4 t280 t283 _ ?side1 ?side2 ?side3 ?side4 A90.out).mono ?_); (case side1 => exact zc_ HR2_0 HB); (case side2 => exact HC2_0.out); (case side3 => exact zc_ HR2_1 HB); (case side4 => exact HC2_1.out); rintro e w127 ⟨v281, rfl, ho0, hb⟩; refine ⟨_, rfl, ?_⟩; have n0_ := Aside0.mk (Kd.R_elder' (zr_ HO274) (Kd.R_base ho0) hb); have n1_ := Aside0.mk (Kd.R_elder' (zr_ HO278) (Kd.R_base ho0) hb); have n2_ := Aside0.mk (Kd.R_lower (Kd.R_new' (Kd.R_new' ho0 (Kd.R_lt (zr_ HO274))) (Kd.R_lt (zr_ HO278))) (below_size zb_)); have n3_ := zk_ BK262 hb; have n4_ := zk_ BK263 hb; have n5_ := zk_ BK264 hb; have n6_ := zk_ BK265 hb; have n7_ := Aside0.mk (below_step zb_ hb); clear HO274; clear HO278; clear BK262; clear BK263; clear BK264; clear BK265; clear HB; have HO274 := n0_; have HO278 := n1_; have HO282 := n2_; have BK262 := n3_; have BK263 := n4_; have BK264 := n5_; have BK265 := n6_; have HB := n7_; clear n0_ n1_ n2_ n3_ n4_ n5_ n6_ n7_; (try clear hb); (try clear hb2); (try clear hk); (try clear hi); (try clear ho0); have hcz128_0 : w127.cell? ⟨gb265, 0, none⟩ = some (.slice A3_0 l3_0.length c3_0) := (blk_cell BK265.out 0).trans rfl; have hcz128_1 : w127.cell? ⟨gb265, 1, none⟩ = some (.slice A3_1 l3_1.length c3_1) := (blk_cell BK265.out 1).trans rfl; have hcz128_2 : w127.cell? ⟨gb265, 2, none⟩ = some (.int .i64 a3_2) := (blk_cell BK265.out 2).trans rfl; have hcz128_3 : w127.cell? ⟨gb265, 3, none⟩ = some (.int .u64 a3_3) := (blk_cell BK265.out 3).trans rfl; have hcz128_4 : w127.cell? ⟨gb265, 4, none⟩ = some (.int .i64 a3_4) := (blk_cell BK265.out 4).trans rfl; have hfz128_0 := blk_frozen BK265.out 0; have hfz128_1 := blk_frozen BK265.out 1; have hfz128_2 := blk_frozen BK265.out 2; have hfz128_3 := blk_frozen BK265.out 3; have hfz128_4 := blk_frozen BK265.out 4) | ((with_reducible refine gate_callee (f := 47) rfl ?_); refine goesL_ (some 75) rfl rfl Try.func47 (by kernel_rfl) rfl #[.agg #[.slice A3_0 l3_0.length c3_0, .slice A3_1 l3_1.length c3_1, .int .i64 a3_2, .int .u64 a3_3, .int .i64 a3_4]] rfl za_ ?_; (with_reducible refine (content_EncodeAll.calls kj4 _ _ l3_0 _ _ l3_1 a3_2 a3_3 a3_4 t284 t287 _ ?side1 ?side2 ?side3 ?side4 A91.out).mono ?_); (case side1 => exact zc_ HR3_0 HB); (case side2 => exact HC3_0.out); (case side3 => exact zc_ HR3_1 HB); (case side4 => exact HC3_1.out); rintro e w129 ⟨v285, rfl, ho0, hb⟩; refine ⟨_, rfl, ?_⟩; have n0_ := Aside0.mk (Kd.R_elder' (zr_ HO274) (Kd.R_base ho0) hb); have n1_ := Aside0.mk (Kd.R_elder' (zr_ HO278) (Kd.R_base ho0) hb); have n2_ := Aside0.mk (Kd.R_elder' (zr_ HO282) (Kd.R_base ho0) hb); have n3_ := Aside0.mk (Kd.R_lower (Kd.R_new' (Kd.R_new' (Kd.R_new' ho0 (Kd.R_lt (zr_ HO274))) (Kd.R_lt (zr_ HO278))) (Kd.R_lt (zr_ HO282))) (below_size zb_)); have n4_ := zk_ BK262 hb; have n5_ := zk_ BK263 hb; have n6_ := zk_ BK264 hb; have n7_ := zk_ BK265 hb; have n8_ := Aside0.mk (below_step zb_ hb); clear HO274; clear HO278; clear HO282; clear BK262; clear BK263; clear BK264; clear BK265; clear HB; have HO274 := n0_; have HO278 := n1_; have HO282 := n2_; have HO286 := n3_; have BK262 := n4_; have BK263 := n5_; have BK264 := n6_; have BK265 := n7_; have HB := n8_; clear n0_ n1_ n2_ n3_ n4_ n5_ n6_ n7_ n8_; (try clear hb); (try clear hb2); (try clear hk); (try clear hi); (try clear ho0); have hcv130 := own_string (P := Try.prog) Try.underlying30 Try.underlying5 Try.underlying9 (Kd.own_of_R HO274.out); have hcv131 := own_string (P := Try.prog) Try.underlying30 Try.underlying5 Try.underlying9 (Kd.own_of_R HO282.out)))
           have n0_ := Aside0.mk (Kd.R_drew HO274.out)
           have n1_ := Aside0.mk (Kd.R_drew HO278.out)
           have n2_ := Aside0.mk (Kd.R_drew HO282.out)
           have n3_ := Aside0.mk (Kd.R_drew HO286.out)
           have n4_ := Aside0.mk (blk_drew BK262.out)
           have n5_ := Aside0.mk (blk_drew BK263.out)
           have n6_ := Aside0.mk (blk_drew BK264.out)
           have n7_ := Aside0.mk (blk_drew BK265.out)
           have n8_ := Aside0.mk (below_drew1 HB.out)
           clear HO274
           clear HO278
           clear HO282
           clear HO286
           clear BK262
           clear BK263
           clear BK264
           clear BK265
           clear HB
           have HO274 := n0_
           have HO278 := n1_
           have HO282 := n2_
           have HO286 := n3_
           have BK262 := n4_
           have BK263 := n5_
           have BK264 := n6_
           have BK265 := n7_
           have HB := n8_
           clear n0_ n1_ n2_ n3_ n4_ n5_ n6_ n7_ n8_
           have hcv133 := own_string (P := Try.prog) Try.underlying30 Try.underlying5 Try.underlying9 (Kd.own_of_R HO274.out)
           have hcv133d := fun n_ : Nat => own_string (P := Try.prog) Try.underlying30 Try.underlying5 Try.underlying9 (Kd.own_of_R (Kd.R_drewN HO274.out n_))
           have hcv134 := own_string (P := Try.prog) Try.underlying30 Try.underlying5 Try.underlying9 (Kd.own_of_R HO278.out)
           have hcv134d := fun n_ : Nat => own_string (P := Try.prog) Try.underlying30 Try.underlying5 Try.underlying9 (Kd.own_of_R (Kd.R_drewN HO278.out n_))
           have hcv135 := Kd.C_string (P := Try.prog) (A := A0_4) (c := c0_4) Try.underlying30 Try.underlying5 Try.underlying9 (Kd.C_below HR0_4.out HB.out)
           have hcv135d := fun n_ : Nat => Kd.C_string (P := Try.prog) (A := A0_4) (c := c0_4) Try.underlying30 Try.underlying5 Try.underlying9 (Kd.C_drewN ((Kd.C_below HR0_4.out HB.out)) n_)
           have hcv136 := Kd.C_string (P := Try.prog) (A := A1_4) (c := c1_4) Try.underlying30 Try.underlying5 Try.underlying9 (Kd.C_below HR1_4.out HB.out)
           have hcv136d := fun n_ : Nat => Kd.C_string (P := Try.prog) (A := A1_4) (c := c1_4) Try.underlying30 Try.underlying5 Try.underlying9 (Kd.C_drewN ((Kd.C_below HR1_4.out HB.out)) n_)
           have hcv137 := own_string (P := Try.prog) Try.underlying30 Try.underlying5 Try.underlying9 (Kd.own_of_R HO282.out)
           have hcv137d := fun n_ : Nat => own_string (P := Try.prog) Try.underlying30 Try.underlying5 Try.underlying9 (Kd.own_of_R (Kd.R_drewN HO282.out n_))
           have hcv138 := own_string (P := Try.prog) Try.underlying30 Try.underlying5 Try.underlying9 (Kd.own_of_R HO286.out)
           have hcv138d := fun n_ : Nat => own_string (P := Try.prog) Try.underlying30 Try.underlying5 Try.underlying9 (Kd.own_of_R (Kd.R_drewN HO286.out n_))
           refine start_ (n := 32) (S := fun w' => w'.cell? ⟨gb262, 0, none⟩ = some (.int .u64 a0_0) ∧ w'.cell? ⟨gb262, 1, none⟩ = some (.int .i64 a0_1) ∧ w'.cell? ⟨gb262, 2, none⟩ = some (.int .u64 a0_2) ∧ w'.cell? ⟨gb262, 3, none⟩ = some (.int .i64 a0_3) ∧ w'.cell? ⟨gb262, 4, none⟩ = some (.slice A0_4 l0_4.length c0_4) ∧ w'.cell? ⟨gb263, 0, none⟩ = some (.int .u64 a1_0) ∧ w'.cell? ⟨gb263, 1, none⟩ = some (.int .i64 a1_1) ∧ w'.cell? ⟨gb263, 2, none⟩ = some (.int .u64 a1_2) ∧ w'.cell? ⟨gb263, 3, none⟩ = some (.int .i64 a1_3) ∧ w'.cell? ⟨gb263, 4, none⟩ = some (.slice A1_4 l1_4.length c1_4) ∧ w'.cell? ⟨gb264, 0, none⟩ = some (.slice A2_0 l2_0.length c2_0) ∧ w'.cell? ⟨gb264, 1, none⟩ = some (.slice A2_1 l2_1.length c2_1) ∧ w'.cell? ⟨gb264, 2, none⟩ = some (.int .i64 a2_2) ∧ w'.cell? ⟨gb264, 3, none⟩ = some (.int .u64 a2_3) ∧ w'.cell? ⟨gb264, 4, none⟩ = some (.int .i64 a2_4) ∧ w'.cell? ⟨gb265, 0, none⟩ = some (.slice A3_0 l3_0.length c3_0) ∧ w'.cell? ⟨gb265, 1, none⟩ = some (.slice A3_1 l3_1.length c3_1) ∧ w'.cell? ⟨gb265, 2, none⟩ = some (.int .i64 a3_2) ∧ w'.cell? ⟨gb265, 3, none⟩ = some (.int .u64 a3_3) ∧ w'.cell? ⟨gb265, 4, none⟩ = some (.int .i64 a3_4) ∧ (convert 30 9 v273).run Try.prog w' = .ok (.string (strOfNums t272)) w' ∧ (convert 30 9 v277).run Try.prog w' = .ok (.string (strOfNums t276)) w' ∧ (convert 30 9 (.slice A0_4 l0_4.length c0_4)).run Try.prog w' = .ok (.string (strOfNums l0_4)) w' ∧ (convert 30 9 (.slice A1_4 l1_4.length c1_4)).run Try.prog w' = .ok (.string (strOfNums l1_4)) w' ∧ (convert 30 9 v281).run Try.prog w' = .ok (.string (strOfNums t280)) w' ∧ (convert 30 9 v285).run Try.prog w' = .ok (.string (strOfNums t284)) w') (ds := []) #[F_,F_,F_,F_,F_,F_,F_,F_,F_,F_,F_,F_,F_,F_,F_,F_,F_,F_,F_,F_,F_,F_,F_,F_,F_,F_,F_,F_,F_,F_,F_,F_] (by kernel_rfl) rfl rfl ⟨(blk_cell BK262.out 0).trans rfl, (blk_cell BK262.out 1).trans rfl, (blk_cell BK262.out 2).trans rfl, (blk_cell BK262.out 3).trans rfl, (blk_cell BK262.out 4).trans rfl, (blk_cell BK263.out 0).trans rfl, (blk_cell BK263.out 1).trans rfl, (blk_cell BK263.out 2).trans rfl, (blk_cell BK263.out 3).trans rfl, (blk_cell BK263.out 4).trans rfl, (blk_cell BK264.out 0).trans rfl, (blk_cell BK264.out 1).trans rfl, (blk_cell BK264.out 2).trans rfl, (blk_cell BK264.out 3).trans rfl, (blk_cell BK264.out 4).trans rfl, (blk_cell BK265.out 0).trans rfl, (blk_cell BK265.out 1).trans rfl, (blk_cell BK265.out 2).trans rfl, (blk_cell BK265.out 3).trans rfl, (blk_cell BK265.out 4).trans rfl, hcv133, hcv134, hcv135, hcv136, hcv137, hcv138⟩ (fun hHeld => ?_); refine with_tabW folkmootlaw15_ContentApart.tab9 folkmootlaw15_ContentApart.bits9 (fun HT_ HW_ => ?_)
           generalize w129.drew = w132 at HO274 HO278 HO282 HO286 BK262 BK263 BK264 BK265 HB hHeld ⊢
           refine pure_ (i := 0) (N := some 99) (v := ?_) (a' := ?_) #[T_,F_,F_,F_,F_,F_,F_,F_,F_,F_,F_,F_,F_,F_,F_,F_,F_,F_,F_,F_,F_,F_,F_,F_,F_,F_,F_,F_,F_,F_,F_,F_] rfl rfl (any_of HT_.out (by kernel_rfl)) (fun _ _ _ h => h) (Or.inl ⟨by rfl, ?_⟩) ?_ ?_
           rotate_left
           ·
            intro w'; go_simp; with_reducible rfl
           rotate_left
           ·
            exact zp_
           refine take_ (i := 1) (N := some 100) (v := ?_) (a' := ?_) #[T_,T_,F_,F_,F_,F_,F_,F_,F_,F_,F_,F_,F_,F_,F_,F_,F_,F_,F_,F_,F_,F_,F_,F_,F_,F_,F_,F_,F_,F_,F_,F_] rfl rfl (take_ofW HT_.out HW_.out (by kernel_rfl)) (fun _ _ _ h => h) (Or.inl ⟨by rfl, ?_⟩) hHeld ?_ ?_
           rotate_left
           ·
            rintro w' ⟨s0, s1, s2, s3, s4, s5, s6, s7, s8, s9, s10, s11, s12, s13, s14, s15, s16, s17, s18, s19, s20, s21, s22, s23, s24, s25⟩
            go_simp
            with_reducible rfl
           rotate_left
           ·
            exact zp_
           refine pure_ (i := 2) (N := some 101) (v := ?_) (a' := ?_) #[T_,T_,T_,F_,F_,F_,F_,F_,F_,F_,F_,F_,F_,F_,F_,F_,F_,F_,F_,F_,F_,F_,F_,F_,F_,F_,F_,F_,F_,F_,F_,F_] rfl rfl (any_of HT_.out (by kernel_rfl)) (fun _ _ _ h => h) (Or.inl ⟨by rfl, ?_⟩) ?_ ?_
           rotate_left
           ·
            intro w'; go_simp; with_reducible rfl
           rotate_left
           ·
            exact zp_
           refine take_ (i := 3) (N := some 102) (v := ?_) (a' := ?_) #[T_,T_,T_,T_,F_,F_,F_,F_,F_,F_,F_,F_,F_,F_,F_,F_,F_,F_,F_,F_,F_,F_,F_,F_,F_,F_,F_,F_,F_,F_,F_,F_] rfl rfl (take_ofW HT_.out HW_.out (by kernel_rfl)) (fun _ _ _ h => h) (Or.inl ⟨by rfl, ?_⟩) hHeld ?_ ?_
           rotate_left
           ·
            rintro w' ⟨s0, s1, s2, s3, s4, s5, s6, s7, s8, s9, s10, s11, s12, s13, s14, s15, s16, s17, s18, s19, s20, s21, s22, s23, s24, s25⟩
            go_simp
            with_reducible rfl
           rotate_left
           ·
            exact zp_
           refine pure_ (i := 4) (N := some 103) (v := ?_) (a' := ?_) #[T_,T_,T_,T_,T_,F_,F_,F_,F_,F_,F_,F_,F_,F_,F_,F_,F_,F_,F_,F_,F_,F_,F_,F_,F_,F_,F_,F_,F_,F_,F_,F_] rfl rfl (any_of HT_.out (by kernel_rfl)) (fun _ _ _ h => h) (Or.inl ⟨by rfl, ?_⟩) ?_ ?_
           rotate_left
           ·
            intro w'; go_simp; with_reducible rfl
           rotate_left
           ·
            exact zp_
           refine pure_ (i := 5) (N := some 104) (v := ?_) (a' := ?_) #[T_,T_,T_,T_,T_,T_,F_,F_,F_,F_,F_,F_,F_,F_,F_,F_,F_,F_,F_,F_,F_,F_,F_,F_,F_,F_,F_,F_,F_,F_,F_,F_] rfl rfl (any_of HT_.out (by kernel_rfl)) (fun _ _ _ h => h) (Or.inl ⟨by rfl, ?_⟩) ?_ ?_
           rotate_left
           ·
            intro w'; go_simp; with_reducible rfl
           rotate_left
           ·
            exact zp_
           refine pure_ (i := 7) (N := some 106) (v := ?_) (a' := ?_) #[T_,T_,T_,T_,T_,T_,F_,T_,F_,F_,F_,F_,F_,F_,F_,F_,F_,F_,F_,F_,F_,F_,F_,F_,F_,F_,F_,F_,F_,F_,F_,F_] rfl rfl (any_of HT_.out (by kernel_rfl)) (fun _ _ _ h => h) (Or.inl ⟨by rfl, ?_⟩) ?_ ?_
           rotate_left
           ·
            intro w'; go_simp; with_reducible rfl
           rotate_left
           ·
            exact zp_
           refine take_ (i := 6) (N := some 105) (v := ?_) (a' := ?_) #[T_,T_,T_,T_,T_,T_,T_,T_,F_,F_,F_,F_,F_,F_,F_,F_,F_,F_,F_,F_,F_,F_,F_,F_,F_,F_,F_,F_,F_,F_,F_,F_] rfl rfl (take_ofW HT_.out HW_.out (by kernel_rfl)) (fun _ _ _ h => h) (Or.inl ⟨by rfl, ?_⟩) hHeld ?_ ?_
           rotate_left
           ·
            rintro w' ⟨s0, s1, s2, s3, s4, s5, s6, s7, s8, s9, s10, s11, s12, s13, s14, s15, s16, s17, s18, s19, s20, s21, s22, s23, s24, s25⟩
            go_simp
            with_reducible rfl
           rotate_left
           ·
            exact zp_
           refine take_ (i := 8) (N := some 107) (v := ?_) (a' := ?_) #[T_,T_,T_,T_,T_,T_,T_,T_,T_,F_,F_,F_,F_,F_,F_,F_,F_,F_,F_,F_,F_,F_,F_,F_,F_,F_,F_,F_,F_,F_,F_,F_] rfl rfl (take_ofW HT_.out HW_.out (by kernel_rfl)) (fun _ _ _ h => h) (Or.inl ⟨by rfl, ?_⟩) hHeld ?_ ?_
           rotate_left
           ·
            rintro w' ⟨s0, s1, s2, s3, s4, s5, s6, s7, s8, s9, s10, s11, s12, s13, s14, s15, s16, s17, s18, s19, s20, s21, s22, s23, s24, s25⟩
            go_simp
            with_reducible rfl
           rotate_left
           ·
            exact zp_
           refine pure_ (i := 9) (N := some 108) (v := ?_) (a' := ?_) #[T_,T_,T_,T_,T_,T_,T_,T_,T_,T_,F_,F_,F_,F_,F_,F_,F_,F_,F_,F_,F_,F_,F_,F_,F_,F_,F_,F_,F_,F_,F_,F_] rfl rfl (any_of HT_.out (by kernel_rfl)) (fun _ _ _ h => h) (Or.inl ⟨by rfl, ?_⟩) ?_ ?_
           rotate_left
           ·
            intro w'; go_simp; with_reducible rfl
           rotate_left
           ·
            exact zp_
           refine pure_ (i := 10) (N := some 109) (v := ?_) (a' := ?_) #[T_,T_,T_,T_,T_,T_,T_,T_,T_,T_,T_,F_,F_,F_,F_,F_,F_,F_,F_,F_,F_,F_,F_,F_,F_,F_,F_,F_,F_,F_,F_,F_] rfl rfl (any_of HT_.out (by kernel_rfl)) (fun _ _ _ h => h) (Or.inl ⟨by rfl, ?_⟩) ?_ ?_
           rotate_left
           ·
            intro w'; go_simp; with_reducible rfl
           rotate_left
           ·
            exact zp_
           refine pure_ (i := 11) (N := some 110) (v := ?_) (a' := ?_) #[T_,T_,T_,T_,T_,T_,T_,T_,T_,T_,T_,T_,F_,F_,F_,F_,F_,F_,F_,F_,F_,F_,F_,F_,F_,F_,F_,F_,F_,F_,F_,F_] rfl rfl (any_of HT_.out (by kernel_rfl)) (fun _ _ _ h => h) (Or.inl ⟨by rfl, ?_⟩) ?_ ?_
           rotate_left
           ·
            intro w'; go_simp; with_reducible rfl
           rotate_left
           ·
            exact zp_
           refine pure_ (i := 14) (N := some 113) (v := ?_) (a' := ?_) #[T_,T_,T_,T_,T_,T_,T_,T_,T_,T_,T_,T_,F_,F_,T_,F_,F_,F_,F_,F_,F_,F_,F_,F_,F_,F_,F_,F_,F_,F_,F_,F_] rfl rfl (any_of HT_.out (by kernel_rfl)) (fun _ _ _ h => h) (Or.inl ⟨by rfl, ?_⟩) ?_ ?_
           rotate_left
           ·
            intro w'; go_simp; with_reducible rfl
           rotate_left
           ·
            exact zp_
           refine take_ (i := 12) (N := some 111) (v := ?_) (a' := ?_) #[T_,T_,T_,T_,T_,T_,T_,T_,T_,T_,T_,T_,T_,F_,T_,F_,F_,F_,F_,F_,F_,F_,F_,F_,F_,F_,F_,F_,F_,F_,F_,F_] rfl rfl (take_ofW HT_.out HW_.out (by kernel_rfl)) (fun _ _ _ h => h) (Or.inl ⟨by rfl, ?_⟩) hHeld ?_ ?_
           rotate_left
           ·
            rintro w' ⟨s0, s1, s2, s3, s4, s5, s6, s7, s8, s9, s10, s11, s12, s13, s14, s15, s16, s17, s18, s19, s20, s21, s22, s23, s24, s25⟩
            go_simp
            with_reducible rfl
           rotate_left
           ·
            exact zp_
           refine take_ (i := 13) (N := some 112) (v := ?_) (a' := ?_) #[T_,T_,T_,T_,T_,T_,T_,T_,T_,T_,T_,T_,T_,T_,T_,F_,F_,F_,F_,F_,F_,F_,F_,F_,F_,F_,F_,F_,F_,F_,F_,F_] rfl rfl (take_ofW HT_.out HW_.out (by kernel_rfl)) (fun _ _ _ h => h) (Or.inl ⟨by rfl, ?_⟩) hHeld ?_ ?_
           rotate_left
           ·
            rintro w' ⟨s0, s1, s2, s3, s4, s5, s6, s7, s8, s9, s10, s11, s12, s13, s14, s15, s16, s17, s18, s19, s20, s21, s22, s23, s24, s25⟩
            go_simp
            with_reducible rfl
           rotate_left
           ·
            exact zp_
           refine take_ (i := 15) (N := some 114) (v := ?_) (a' := ?_) #[T_,T_,T_,T_,T_,T_,T_,T_,T_,T_,T_,T_,T_,T_,T_,T_,F_,F_,F_,F_,F_,F_,F_,F_,F_,F_,F_,F_,F_,F_,F_,F_] rfl rfl (take_ofW HT_.out HW_.out (by kernel_rfl)) (fun _ _ _ h => h) (Or.inl ⟨by rfl, ?_⟩) hHeld ?_ ?_
           rotate_left
           ·
            rintro w' ⟨s0, s1, s2, s3, s4, s5, s6, s7, s8, s9, s10, s11, s12, s13, s14, s15, s16, s17, s18, s19, s20, s21, s22, s23, s24, s25⟩
            go_simp
            with_reducible rfl
           rotate_left
           ·
            exact zp_
           refine take_ (i := 16) (N := some 115) (v := ?_) (a' := ?_) #[T_,T_,T_,T_,T_,T_,T_,T_,T_,T_,T_,T_,T_,T_,T_,T_,T_,F_,F_,F_,F_,F_,F_,F_,F_,F_,F_,F_,F_,F_,F_,F_] rfl rfl (take_ofW HT_.out HW_.out (by kernel_rfl)) (fun _ _ _ h => h) (Or.inl ⟨by rfl, ?_⟩) hHeld ?_ ?_
           rotate_left
           ·
            rintro w' ⟨s0, s1, s2, s3, s4, s5, s6, s7, s8, s9, s10, s11, s12, s13, s14, s15, s16, s17, s18, s19, s20, s21, s22, s23, s24, s25⟩
            go_simp
            with_reducible rfl
           rotate_left
           ·
            exact zp_
           refine pure_ (i := 17) (N := some 116) (v := ?_) (a' := ?_) #[T_,T_,T_,T_,T_,T_,T_,T_,T_,T_,T_,T_,T_,T_,T_,T_,T_,T_,F_,F_,F_,F_,F_,F_,F_,F_,F_,F_,F_,F_,F_,F_] rfl rfl (any_of HT_.out (by kernel_rfl)) (fun _ _ _ h => h) (Or.inl ⟨by rfl, ?_⟩) ?_ ?_
           rotate_left
           ·
            intro w'; go_simp; with_reducible rfl
           rotate_left
           ·
            exact zp_
           refine pure_ (i := 18) (N := some 117) (v := ?_) (a' := ?_) #[T_,T_,T_,T_,T_,T_,T_,T_,T_,T_,T_,T_,T_,T_,T_,T_,T_,T_,T_,F_,F_,F_,F_,F_,F_,F_,F_,F_,F_,F_,F_,F_] rfl rfl (any_of HT_.out (by kernel_rfl)) (fun _ _ _ h => h) (Or.inl ⟨by rfl, ?_⟩) ?_ ?_
           rotate_left
           ·
            intro w'; go_simp; with_reducible rfl
           rotate_left
           ·
            exact zp_
           refine pure_ (i := 19) (N := some 118) (v := ?_) (a' := ?_) #[T_,T_,T_,T_,T_,T_,T_,T_,T_,T_,T_,T_,T_,T_,T_,T_,T_,T_,T_,T_,F_,F_,F_,F_,F_,F_,F_,F_,F_,F_,F_,F_] rfl rfl (any_of HT_.out (by kernel_rfl)) (fun _ _ _ h => h) (Or.inl ⟨by rfl, ?_⟩) ?_ ?_
           rotate_left
           ·
            intro w'; go_simp; with_reducible rfl
           rotate_left
           ·
            exact zp_
           refine pure_ (i := 20) (N := some 119) (v := ?_) (a' := ?_) #[T_,T_,T_,T_,T_,T_,T_,T_,T_,T_,T_,T_,T_,T_,T_,T_,T_,T_,T_,T_,T_,F_,F_,F_,F_,F_,F_,F_,F_,F_,F_,F_] rfl rfl (any_of HT_.out (by kernel_rfl)) (fun _ _ _ h => h) (Or.inl ⟨by rfl, ?_⟩) ?_ ?_
           rotate_left
           ·
            intro w'; go_simp; with_reducible rfl
           rotate_left
           ·
            exact zp_
           refine pure_ (i := 21) (N := some 120) (v := ?_) (a' := ?_) #[T_,T_,T_,T_,T_,T_,T_,T_,T_,T_,T_,T_,T_,T_,T_,T_,T_,T_,T_,T_,T_,T_,F_,F_,F_,F_,F_,F_,F_,F_,F_,F_] rfl rfl (any_of HT_.out (by kernel_rfl)) (fun _ _ _ h => h) (Or.inl ⟨by rfl, ?_⟩) ?_ ?_
           rotate_left
           ·
            intro w'; go_simp; with_reducible rfl
           rotate_left
           ·
            exact zp_
           refine take_ (i := 22) (N := some 121) (v := ?_) (a' := ?_) #[T_,T_,T_,T_,T_,T_,T_,T_,T_,T_,T_,T_,T_,T_,T_,T_,T_,T_,T_,T_,T_,T_,T_,F_,F_,F_,F_,F_,F_,F_,F_,F_] rfl rfl (take_ofW HT_.out HW_.out (by kernel_rfl)) (fun _ _ _ h => h) (Or.inl ⟨by rfl, ?_⟩) hHeld ?_ ?_
           rotate_left
           ·
            rintro w' ⟨s0, s1, s2, s3, s4, s5, s6, s7, s8, s9, s10, s11, s12, s13, s14, s15, s16, s17, s18, s19, s20, s21, s22, s23, s24, s25⟩
            go_simp
            with_reducible rfl
           rotate_left
           ·
            exact zp_
           refine pure_ (i := 23) (N := some 122) (v := ?_) (a' := ?_) #[T_,T_,T_,T_,T_,T_,T_,T_,T_,T_,T_,T_,T_,T_,T_,T_,T_,T_,T_,T_,T_,T_,T_,T_,F_,F_,F_,F_,F_,F_,F_,F_] rfl rfl (any_of HT_.out (by kernel_rfl)) (fun _ _ _ h => h) (Or.inl ⟨by rfl, ?_⟩) ?_ ?_
           rotate_left
           ·
            intro w'; go_simp; with_reducible rfl
           rotate_left
           ·
            exact zp_
           refine take_ (i := 24) (N := some 123) (v := ?_) (a' := ?_) #[T_,T_,T_,T_,T_,T_,T_,T_,T_,T_,T_,T_,T_,T_,T_,T_,T_,T_,T_,T_,T_,T_,T_,T_,T_,F_,F_,F_,F_,F_,F_,F_] rfl rfl (take_ofW HT_.out HW_.out (by kernel_rfl)) (fun _ _ _ h => h) (Or.inl ⟨by rfl, ?_⟩) hHeld ?_ ?_
           rotate_left
           ·
            rintro w' ⟨s0, s1, s2, s3, s4, s5, s6, s7, s8, s9, s10, s11, s12, s13, s14, s15, s16, s17, s18, s19, s20, s21, s22, s23, s24, s25⟩
            go_simp
            with_reducible rfl
           rotate_left
           ·
            exact zp_
           refine pure_ (i := 25) (N := some 124) (v := ?_) (a' := ?_) #[T_,T_,T_,T_,T_,T_,T_,T_,T_,T_,T_,T_,T_,T_,T_,T_,T_,T_,T_,T_,T_,T_,T_,T_,T_,T_,F_,F_,F_,F_,F_,F_] rfl rfl (any_of HT_.out (by kernel_rfl)) (fun _ _ _ h => h) (Or.inl ⟨by rfl, ?_⟩) ?_ ?_
           rotate_left
           ·
            intro w'; go_simp; with_reducible rfl
           rotate_left
           ·
            exact zp_
           refine take_ (i := 26) (N := some 125) (v := ?_) (a' := ?_) #[T_,T_,T_,T_,T_,T_,T_,T_,T_,T_,T_,T_,T_,T_,T_,T_,T_,T_,T_,T_,T_,T_,T_,T_,T_,T_,T_,F_,F_,F_,F_,F_] rfl rfl (take_ofW HT_.out HW_.out (by kernel_rfl)) (fun _ _ _ h => h) (Or.inl ⟨by rfl, ?_⟩) hHeld ?_ ?_
           rotate_left
           ·
            rintro w' ⟨s0, s1, s2, s3, s4, s5, s6, s7, s8, s9, s10, s11, s12, s13, s14, s15, s16, s17, s18, s19, s20, s21, s22, s23, s24, s25⟩
            go_simp
            with_reducible rfl
           rotate_left
           ·
            exact zp_
           refine take_ (i := 27) (N := some 126) (v := ?_) (a' := ?_) #[T_,T_,T_,T_,T_,T_,T_,T_,T_,T_,T_,T_,T_,T_,T_,T_,T_,T_,T_,T_,T_,T_,T_,T_,T_,T_,T_,T_,F_,F_,F_,F_] rfl rfl (take_ofW HT_.out HW_.out (by kernel_rfl)) (fun _ _ _ h => h) (Or.inl ⟨by rfl, ?_⟩) hHeld ?_ ?_
           rotate_left
           ·
            rintro w' ⟨s0, s1, s2, s3, s4, s5, s6, s7, s8, s9, s10, s11, s12, s13, s14, s15, s16, s17, s18, s19, s20, s21, s22, s23, s24, s25⟩
            go_simp
            with_reducible rfl
           rotate_left
           ·
            exact zp_
           refine one_ (i := 28) (N := some 127) #[T_,T_,T_,T_,T_,T_,T_,T_,T_,T_,T_,T_,T_,T_,T_,T_,T_,T_,T_,T_,T_,T_,T_,T_,T_,T_,T_,T_,T_,F_,F_,F_] rfl rfl (one_of HT_.out (by kernel_rfl)) (by decide) (fun K hK => ?_)
           refine goes_ Try.func48 (by kernel_rfl) rfl #[.agg #[.slice A2_0 l2_0.length c2_0, .slice A2_1 l2_1.length c2_1, .int .i64 a2_2, .int .u64 a2_3, .int .i64 a2_4], .agg #[.slice A3_0 l3_0.length c3_0, .slice A3_1 l3_1.length c3_1, .int .i64 a3_2, .int .u64 a3_3, .int .i64 a3_4]] (by rfl) rfl rfl za_ ?_
           with_reducible refine (folkmootref15_Alike.calls kj4 _ _ l2_0 _ _ l2_1 a2_2 a2_3 a2_4 _ _ l3_0 _ _ l3_1 a3_2 a3_3 a3_4 t288 _ ?side1 ?side2 ?side3 ?side4 ?side5 ?side6 ?side7 ?side8 A115.out).mono ?_
           (case side1 => exact zc_ HR2_0 HB)
           (case side2 => exact HC2_0.out)
           (case side3 => exact zc_ HR2_1 HB)
           (case side4 => exact HC2_1.out)
           (case side5 => exact zc_ HR3_0 HB)
           (case side6 => exact HC3_0.out)
           (case side7 => exact zc_ HR3_1 HB)
           (case side8 => exact HC3_1.out)
           rintro e w139 ⟨rfl, hb⟩
           refine ⟨_, rfl, ?_⟩
           have n0_ := Aside0.mk (Kd.R_below (zr_ HO274) hb)
           have n1_ := Aside0.mk (Kd.R_below (zr_ HO278) hb)
           have n2_ := Aside0.mk (Kd.R_below (zr_ HO282) hb)
           have n3_ := Aside0.mk (Kd.R_below (zr_ HO286) hb)
           have n4_ := zk_ BK262 hb
           have n5_ := zk_ BK263 hb
           have n6_ := zk_ BK264 hb
           have n7_ := zk_ BK265 hb
           have n8_ := Aside0.mk (below_step zb_ hb)
           clear HO274
           clear HO278
           clear HO282
           clear HO286
           clear BK262
           clear BK263
           clear BK264
           clear BK265
           clear HB
           have HO274 := n0_
           have HO278 := n1_
           have HO282 := n2_
           have HO286 := n3_
           have BK262 := n4_
           have BK263 := n5_
           have BK264 := n6_
           have BK265 := n7_
           have HB := n8_
           clear n0_ n1_ n2_ n3_ n4_ n5_ n6_ n7_ n8_
           (try clear hb)
           (try clear hb2)
           (try clear hk)
           (try clear hi)
           refine hK.out _ _ ⟨(blk_cell BK262.out 0).trans rfl, (blk_cell BK262.out 1).trans rfl, (blk_cell BK262.out 2).trans rfl, (blk_cell BK262.out 3).trans rfl, (blk_cell BK262.out 4).trans rfl, (blk_cell BK263.out 0).trans rfl, (blk_cell BK263.out 1).trans rfl, (blk_cell BK263.out 2).trans rfl, (blk_cell BK263.out 3).trans rfl, (blk_cell BK263.out 4).trans rfl, (blk_cell BK264.out 0).trans rfl, (blk_cell BK264.out 1).trans rfl, (blk_cell BK264.out 2).trans rfl, (blk_cell BK264.out 3).trans rfl, (blk_cell BK264.out 4).trans rfl, (blk_cell BK265.out 0).trans rfl, (blk_cell BK265.out 1).trans rfl, (blk_cell BK265.out 2).trans rfl, (blk_cell BK265.out 3).trans rfl, (blk_cell BK265.out 4).trans rfl, own_string (P := Try.prog) Try.underlying30 Try.underlying5 Try.underlying9 (Kd.own_of_R HO274.out), own_string (P := Try.prog) Try.underlying30 Try.underlying5 Try.underlying9 (Kd.own_of_R HO278.out), Kd.C_string (P := Try.prog) (A := A0_4) (c := c0_4) Try.underlying30 Try.underlying5 Try.underlying9 (Kd.C_below HR0_4.out HB.out), Kd.C_string (P := Try.prog) (A := A1_4) (c := c1_4) Try.underlying30 Try.underlying5 Try.underlying9 (Kd.C_below HR1_4.out HB.out), own_string (P := Try.prog) Try.underlying30 Try.underlying5 Try.underlying9 (Kd.own_of_R HO282.out), own_string (P := Try.prog) Try.underlying30 Try.underlying5 Try.underlying9 (Kd.own_of_R HO286.out)⟩ (fun hHeld => ?_)
           clear hK K
           refine norm_ (a' := ?_) ?_ ?_
           rotate_left
           ·
            show Act.put _ (some 127) _ = _
            simp only [Act.put, List.setIfInBounds_toArray, List.set_cons_zero, List.set_cons_succ, i64_w, i32_w]
            rfl
           refine pure_ (i := 29) (N := some 128) (v := ?_) (a' := ?_) #[T_,T_,T_,T_,T_,T_,T_,T_,T_,T_,T_,T_,T_,T_,T_,T_,T_,T_,T_,T_,T_,T_,T_,T_,T_,T_,T_,T_,T_,T_,F_,F_] rfl rfl (any_of HT_.out (by kernel_rfl)) (fun _ _ _ h => h) (Or.inl ⟨by rfl, ?_⟩) ?_ ?_
           rotate_left
           ·
            intro w'; go_simp; with_reducible rfl
           rotate_left
           ·
            exact zp_
           refine pure_ (i := 30) (N := some 129) (v := ?_) (a' := ?_) #[T_,T_,T_,T_,T_,T_,T_,T_,T_,T_,T_,T_,T_,T_,T_,T_,T_,T_,T_,T_,T_,T_,T_,T_,T_,T_,T_,T_,T_,T_,T_,F_] rfl rfl (any_of HT_.out (by kernel_rfl)) (fun _ _ _ h => h) (Or.inl ⟨by rfl, ?_⟩) ?_ ?_
           rotate_left
           ·
            intro w'; go_simp; with_reducible rfl
           rotate_left
           ·
            exact zp_
           refine pure_ (i := 31) (N := some 8) (v := ?_) (a' := ?_) #[T_,T_,T_,T_,T_,T_,T_,T_,T_,T_,T_,T_,T_,T_,T_,T_,T_,T_,T_,T_,T_,T_,T_,T_,T_,T_,T_,T_,T_,T_,T_,T_] rfl rfl (any_of HT_.out (by kernel_rfl)) (fun _ _ _ h => h) (Or.inl ⟨by rfl, ?_⟩) ?_ ?_
           rotate_left
           ·
            intro w'; go_simp; with_reducible rfl
           rotate_left
           ·
            exact zp_
           refine done_ (done_of HT_.out (by kernel_rfl)) ?_
           (try clear hHeld); (try clear HS0_)
           try go_wp2
           go_ret
           exact ⟨by first | rfl | (simp [errW_none, errW_some] <;> rfl) | (simp [*, errW_none, errW_some] <;> rfl), by repeat (first | (with_reducible first | exact HB.out | apply below_alloc | apply pw_below_drewN | apply below_drew1 | refine below_set ?_ GE262.out | refine below_set ?_ GE263.out | refine below_set ?_ GE264.out | refine below_set ?_ GE265.out) | exact HB.out)⟩
          ·
           rw [if_neg c114] at H
           have c114b0 : (((strOfNums t272).toList == (strOfNums t276).toList) == ((strOfNums l0_4).toList == (strOfNums l1_4).toList)) = false := by simpa using c114
           (try (have c114b1 : decide (((strOfNums t272).toList == (strOfNums t276).toList) = ((strOfNums l0_4).toList == (strOfNums l1_4).toList)) = false := by simpa using c114))
           (try (have c114b2 : (((strOfNums t272).toList == (strOfNums t276).toList) == ((strOfNums l0_4).toList == (strOfNums l1_4).toList)) = false := by simpa using c114))
           (try (have c114b3 : ¬ (((strOfNums t272).toList == (strOfNums t276).toList) = ((strOfNums l0_4).toList == (strOfNums l1_4).toList)) := by simpa using c114))
           clear c114
           obtain rfl := Option.some.inj H
           have hnb141 := NB262_263.out
           have hnc141 := NB263_262.out
           have hnb142 := NB262_264.out
           have hnc142 := NB264_262.out
           have hnb143 := NB262_265.out
           have hnc143 := NB265_262.out
           have hcz144_0 : wc.cell? ⟨gb262, 0, none⟩ = some (.int .u64 a0_0) := (blk_cell BK262.out 0).trans rfl
           have hcz144_1 : wc.cell? ⟨gb262, 1, none⟩ = some (.int .i64 a0_1) := (blk_cell BK262.out 1).trans rfl
           have hcz144_2 : wc.cell? ⟨gb262, 2, none⟩ = some (.int .u64 a0_2) := (blk_cell BK262.out 2).trans rfl
           have hcz144_3 : wc.cell? ⟨gb262, 3, none⟩ = some (.int .i64 a0_3) := (blk_cell BK262.out 3).trans rfl
           have hcz144_4 : wc.cell? ⟨gb262, 4, none⟩ = some (.slice A0_4 l0_4.length c0_4) := (blk_cell BK262.out 4).trans rfl
           have hfz144_0 := blk_frozen BK262.out 0
           have hfz144_1 := blk_frozen BK262.out 1
           have hfz144_2 := blk_frozen BK262.out 2
           have hfz144_3 := blk_frozen BK262.out 3
           have hfz144_4 := blk_frozen BK262.out 4
           try go_wp2_with (first | ((with_reducible refine gate_callee (f := 46) rfl ?_); refine goesL_ (some 60) rfl rfl Try.func46 (by kernel_rfl) rfl #[.agg #[.int .u64 a0_0, .int .i64 a0_1, .int .u64 a0_2, .int .i64 a0_3, .slice A0_4 l0_4.length c0_4]] rfl za_ ?_; (with_reducible refine (content_EncodeOne.calls kj4 a0_0 a0_1 a0_2 a0_3 _ _ l0_4 t272 t275 _ ?side1 ?side2 A88.out).mono ?_); (case side1 => exact zc_ HR0_4 HB); (case side2 => exact HC0_4.out); rintro e w145 ⟨v273, rfl, ho0, hb⟩; refine ⟨_, rfl, ?_⟩; have n0_ := Aside0.mk (Kd.R_lower ho0 (below_size zb_)); have n1_ := zk_ BK262 hb; have n2_ := zk_ BK263 hb; have n3_ := zk_ BK264 hb; have n4_ := zk_ BK265 hb; have n5_ := Aside0.mk (below_step zb_ hb); clear BK262; clear BK263; clear BK264; clear BK265; clear HB; have HO274 := n0_; have BK262 := n1_; have BK263 := n2_; have BK264 := n3_; have BK265 := n4_; have HB := n5_; clear n0_ n1_ n2_ n3_ n4_ n5_; (try clear hb); (try clear hb2); (try clear hk); (try clear hi); (try clear ho0); have hnb146 := NB263_264.out; have hnc146 := NB264_263.out; have hnb147 := NB263_265.out; have hnc147 := NB265_263.out; have hcz148_0 : w145.cell? ⟨gb263, 0, none⟩ = some (.int .u64 a1_0) := (blk_cell BK263.out 0).trans rfl; have hcz148_1 : w145.cell? ⟨gb263, 1, none⟩ = some (.int .i64 a1_1) := (blk_cell BK263.out 1).trans rfl; have hcz148_2 : w145.cell? ⟨gb263, 2, none⟩ = some (.int .u64 a1_2) := (blk_cell BK263.out 2).trans rfl; have hcz148_3 : w145.cell? ⟨gb263, 3, none⟩ = some (.int .i64 a1_3) := (blk_cell BK263.out 3).trans rfl; have hcz148_4 : w145.cell? ⟨gb263, 4, none⟩ = some (.slice A1_4 l1_4.length c1_4) := (blk_cell BK263.out 4).trans rfl; have hfz148_0 := blk_frozen BK263.out 0; have hfz148_1 := blk_frozen BK263.out 1; have hfz148_2 := blk_frozen BK263.out 2; have hfz148_3 := blk_frozen BK263.out 3; have hfz148_4 := blk_frozen BK263.out 4) | ((with_reducible refine gate_callee (f := 46) rfl ?_); refine goesL_ (some 65) rfl rfl Try.func46 (by kernel_rfl) rfl #[.agg #[.int .u64 a1_0, .int .i64 a1_1, .int .u64 a1_2, .int .i64 a1_3, .slice A1_4 l1_4.length c1_4]] rfl za_ ?_; (with_reducible refine (content_EncodeOne.calls kj4 a1_0 a1_1 a1_2 a1_3 _ _ l1_4 t276 t279 _ ?side1 ?side2 A89.out).mono ?_); (case side1 => exact zc_ HR1_4 HB); (case side2 => exact HC1_4.out); rintro e w149 ⟨v277, rfl, ho0, hb⟩; refine ⟨_, rfl, ?_⟩; have n0_ := Aside0.mk (Kd.R_elder' (zr_ HO274) (Kd.R_base ho0) hb); have n1_ := Aside0.mk (Kd.R_lower (Kd.R_new' ho0 (Kd.R_lt (zr_ HO274))) (below_size zb_)); have n2_ := zk_ BK262 hb; have n3_ := zk_ BK263 hb; have n4_ := zk_ BK264 hb; have n5_ := zk_ BK265 hb; have n6_ := Aside0.mk (below_step zb_ hb); clear HO274; clear BK262; clear BK263; clear BK264; clear BK265; clear HB; have HO274 := n0_; have HO278 := n1_; have BK262 := n2_; have BK263 := n3_; have BK264 := n4_; have BK265 := n5_; have HB := n6_; clear n0_ n1_ n2_ n3_ n4_ n5_ n6_; (try clear hb); (try clear hb2); (try clear hk); (try clear hi); (try clear ho0); have hnb150 := NB264_265.out; have hnc150 := NB265_264.out; have hcz151_0 : w149.cell? ⟨gb264, 0, none⟩ = some (.slice A2_0 l2_0.length c2_0) := (blk_cell BK264.out 0).trans rfl; have hcz151_1 : w149.cell? ⟨gb264, 1, none⟩ = some (.slice A2_1 l2_1.length c2_1) := (blk_cell BK264.out 1).trans rfl; have hcz151_2 : w149.cell? ⟨gb264, 2, none⟩ = some (.int .i64 a2_2) := (blk_cell BK264.out 2).trans rfl; have hcz151_3 : w149.cell? ⟨gb264, 3, none⟩ = some (.int .u64 a2_3) := (blk_cell BK264.out 3).trans rfl; have hcz151_4 : w149.cell? ⟨gb264, 4, none⟩ = some (.int .i64 a2_4) := (blk_cell BK264.out 4).trans rfl; have hfz151_0 := blk_frozen BK264.out 0; have hfz151_1 := blk_frozen BK264.out 1; have hfz151_2 := blk_frozen BK264.out 2; have hfz151_3 := blk_frozen BK264.out 3; have hfz151_4 := blk_frozen BK264.out 4) | ((with_reducible refine gate_callee (f := 47) rfl ?_); refine goesL_ (some 70) rfl rfl Try.func47 (by kernel_rfl) rfl #[.agg #[.slice A2_0 l2_0.length c2_0, .slice A2_1 l2_1.length c2_1, .int .i64 a2_2, .int .u64 a2_3, .int .i64 a2_4]] rfl za_ ?_; (with_reducible refine (content_EncodeAll.calls kj4 _ _ l2_0 _ _ l2_1 a2_2 a2_3 a2_4 t280 t283 _ ?side1 ?side2 ?side3 ?side4 A90.out).mono ?_); (case side1 => exact zc_ HR2_0 HB); (case side2 => exact HC2_0.out); (case side3 => exact zc_ HR2_1 HB); (case side4 => exact HC2_1.out); rintro e w152 ⟨v281, rfl, ho0, hb⟩; refine ⟨_, rfl, ?_⟩; have n0_ := Aside0.mk (Kd.R_elder' (zr_ HO274) (Kd.R_base ho0) hb); have n1_ := Aside0.mk (Kd.R_elder' (zr_ HO278) (Kd.R_base ho0) hb); have n2_ := Aside0.mk (Kd.R_lower (Kd.R_new' (Kd.R_new' ho0 (Kd.R_lt (zr_ HO274))) (Kd.R_lt (zr_ HO278))) (below_size zb_)); have n3_ := zk_ BK262 hb; have n4_ := zk_ BK263 hb; have n5_ := zk_ BK264 hb; have n6_ := zk_ BK265 hb; have n7_ := Aside0.mk (below_step zb_ hb); clear HO274; clear HO278; clear BK262; clear BK263; clear BK264; clear BK265; clear HB; have HO274 := n0_; have HO278 := n1_; have HO282 := n2_; have BK262 := n3_; have BK263 := n4_; have BK264 := n5_; have BK265 := n6_; have HB := n7_; clear n0_ n1_ n2_ n3_ n4_ n5_ n6_ n7_; (try clear hb); (try clear hb2); (try clear hk); (try clear hi); (try clear ho0); have hcz153_0 : w152.cell? ⟨gb265, 0, none⟩ = some (.slice A3_0 l3_0.length c3_0) := (blk_cell BK265.out 0).trans rfl; have hcz153_1 : w152.cell? ⟨gb265, 1, none⟩ = some (.slice A3_1 l3_1.length c3_1) := (blk_cell BK265.out 1).trans rfl; have hcz153_2 : w152.cell? ⟨gb265, 2, none⟩ = some (.int .i64 a3_2) := (blk_cell BK265.out 2).trans rfl; have hcz153_3 : w152.cell? ⟨gb265, 3, none⟩ = some (.int .u64 a3_3) := (blk_cell BK265.out 3).trans rfl; have hcz153_4 : w152.cell? ⟨gb265, 4, none⟩ = some (.int .i64 a3_4) := (blk_cell BK265.out 4).trans rfl; have hfz153_0 := blk_frozen BK265.out 0; have hfz153_1 := blk_frozen BK265.out 1; have hfz153_2 := blk_frozen BK265.out 2; have hfz153_3 := blk_frozen BK265.out 3; have hfz153_4 := blk_frozen BK265.out 4) | ((with_reducible refine gate_callee (f := 47) rfl ?_); refine goesL_ (some 75) rfl rfl Try.func47 (by kernel_rfl) rfl #[.agg #[.slice A3_0 l3_0.length c3_0, .slice A3_1 l3_1.length c3_1, .int .i64 a3_2, .int .u64 a3_3, .int .i64 a3_4]] rfl za_ ?_; (with_reducible refine (content_EncodeAll.calls kj4 _ _ l3_0 _ _ l3_1 a3_2 a3_3 a3_4 t284 t287 _ ?side1 ?side2 ?side3 ?side4 A91.out).mono ?_); (case side1 => exact zc_ HR3_0 HB); (case side2 => exact HC3_0.out); (case side3 => exact zc_ HR3_1 HB); (case side4 => exact HC3_1.out); rintro e w154 ⟨v285, rfl, ho0, hb⟩; refine ⟨_, rfl, ?_⟩; have n0_ := Aside0.mk (Kd.R_elder' (zr_ HO274) (Kd.R_base ho0) hb); have n1_ := Aside0.mk (Kd.R_elder' (zr_ HO278) (Kd.R_base ho0) hb); have n2_ := Aside0.mk (Kd.R_elder' (zr_ HO282) (Kd.R_base ho0) hb); have n3_ := Aside0.mk (Kd.R_lower (Kd.R_new' (Kd.R_new' (Kd.R_new' ho0 (Kd.R_lt (zr_ HO274))) (Kd.R_lt (zr_ HO278))) (Kd.R_lt (zr_ HO282))) (below_size zb_)); have n4_ := zk_ BK262 hb; have n5_ := zk_ BK263 hb; have n6_ := zk_ BK264 hb; have n7_ := zk_ BK265 hb; have n8_ := Aside0.mk (below_step zb_ hb); clear HO274; clear HO278; clear HO282; clear BK262; clear BK263; clear BK264; clear BK265; clear HB; have HO274 := n0_; have HO278 := n1_; have HO282 := n2_; have HO286 := n3_; have BK262 := n4_; have BK263 := n5_; have BK264 := n6_; have BK265 := n7_; have HB := n8_; clear n0_ n1_ n2_ n3_ n4_ n5_ n6_ n7_ n8_; (try clear hb); (try clear hb2); (try clear hk); (try clear hi); (try clear ho0); have hcv155 := own_string (P := Try.prog) Try.underlying30 Try.underlying5 Try.underlying9 (Kd.own_of_R HO274.out); have hcv156 := own_string (P := Try.prog) Try.underlying30 Try.underlying5 Try.underlying9 (Kd.own_of_R HO282.out)))
           have n0_ := Aside0.mk (Kd.R_drew HO274.out)
           have n1_ := Aside0.mk (Kd.R_drew HO278.out)
           have n2_ := Aside0.mk (Kd.R_drew HO282.out)
           have n3_ := Aside0.mk (Kd.R_drew HO286.out)
           have n4_ := Aside0.mk (blk_drew BK262.out)
           have n5_ := Aside0.mk (blk_drew BK263.out)
           have n6_ := Aside0.mk (blk_drew BK264.out)
           have n7_ := Aside0.mk (blk_drew BK265.out)
           have n8_ := Aside0.mk (below_drew1 HB.out)
           clear HO274
           clear HO278
           clear HO282
           clear HO286
           clear BK262
           clear BK263
           clear BK264
           clear BK265
           clear HB
           have HO274 := n0_
           have HO278 := n1_
           have HO282 := n2_
           have HO286 := n3_
           have BK262 := n4_
           have BK263 := n5_
           have BK264 := n6_
           have BK265 := n7_
           have HB := n8_
           clear n0_ n1_ n2_ n3_ n4_ n5_ n6_ n7_ n8_
           have hcv158 := own_string (P := Try.prog) Try.underlying30 Try.underlying5 Try.underlying9 (Kd.own_of_R HO274.out)
           have hcv158d := fun n_ : Nat => own_string (P := Try.prog) Try.underlying30 Try.underlying5 Try.underlying9 (Kd.own_of_R (Kd.R_drewN HO274.out n_))
           have hcv159 := own_string (P := Try.prog) Try.underlying30 Try.underlying5 Try.underlying9 (Kd.own_of_R HO278.out)
           have hcv159d := fun n_ : Nat => own_string (P := Try.prog) Try.underlying30 Try.underlying5 Try.underlying9 (Kd.own_of_R (Kd.R_drewN HO278.out n_))
           have hcv160 := Kd.C_string (P := Try.prog) (A := A0_4) (c := c0_4) Try.underlying30 Try.underlying5 Try.underlying9 (Kd.C_below HR0_4.out HB.out)
           have hcv160d := fun n_ : Nat => Kd.C_string (P := Try.prog) (A := A0_4) (c := c0_4) Try.underlying30 Try.underlying5 Try.underlying9 (Kd.C_drewN ((Kd.C_below HR0_4.out HB.out)) n_)
           have hcv161 := Kd.C_string (P := Try.prog) (A := A1_4) (c := c1_4) Try.underlying30 Try.underlying5 Try.underlying9 (Kd.C_below HR1_4.out HB.out)
           have hcv161d := fun n_ : Nat => Kd.C_string (P := Try.prog) (A := A1_4) (c := c1_4) Try.underlying30 Try.underlying5 Try.underlying9 (Kd.C_drewN ((Kd.C_below HR1_4.out HB.out)) n_)
           refine start_ (n := 32) (S := fun w' => w'.cell? ⟨gb262, 0, none⟩ = some (.int .u64 a0_0) ∧ w'.cell? ⟨gb262, 1, none⟩ = some (.int .i64 a0_1) ∧ w'.cell? ⟨gb262, 2, none⟩ = some (.int .u64 a0_2) ∧ w'.cell? ⟨gb262, 3, none⟩ = some (.int .i64 a0_3) ∧ w'.cell? ⟨gb262, 4, none⟩ = some (.slice A0_4 l0_4.length c0_4) ∧ w'.cell? ⟨gb263, 0, none⟩ = some (.int .u64 a1_0) ∧ w'.cell? ⟨gb263, 1, none⟩ = some (.int .i64 a1_1) ∧ w'.cell? ⟨gb263, 2, none⟩ = some (.int .u64 a1_2) ∧ w'.cell? ⟨gb263, 3, none⟩ = some (.int .i64 a1_3) ∧ w'.cell? ⟨gb263, 4, none⟩ = some (.slice A1_4 l1_4.length c1_4) ∧ (convert 30 9 v273).run Try.prog w' = .ok (.string (strOfNums t272)) w' ∧ (convert 30 9 v277).run Try.prog w' = .ok (.string (strOfNums t276)) w' ∧ (convert 30 9 (.slice A0_4 l0_4.length c0_4)).run Try.prog w' = .ok (.string (strOfNums l0_4)) w' ∧ (convert 30 9 (.slice A1_4 l1_4.length c1_4)).run Try.prog w' = .ok (.string (strOfNums l1_4)) w') (ds := []) #[F_,F_,F_,F_,F_,F_,F_,F_,F_,F_,F_,F_,F_,F_,F_,F_,F_,F_,F_,F_,F_,F_,F_,F_,F_,F_,F_,F_,F_,F_,F_,F_] (by kernel_rfl) rfl rfl ⟨(blk_cell BK262.out 0).trans rfl, (blk_cell BK262.out 1).trans rfl, (blk_cell BK262.out 2).trans rfl, (blk_cell BK262.out 3).trans rfl, (blk_cell BK262.out 4).trans rfl, (blk_cell BK263.out 0).trans rfl, (blk_cell BK263.out 1).trans rfl, (blk_cell BK263.out 2).trans rfl, (blk_cell BK263.out 3).trans rfl, (blk_cell BK263.out 4).trans rfl, hcv158, hcv159, hcv160, hcv161⟩ (fun hHeld => ?_); refine with_tabW folkmootlaw15_ContentApart.tab9 folkmootlaw15_ContentApart.bits9 (fun HT_ HW_ => ?_)
           generalize w154.drew = w157 at HO274 HO278 HO282 HO286 BK262 BK263 BK264 BK265 HB hHeld ⊢
           refine pure_ (i := 0) (N := some 99) (v := ?_) (a' := ?_) #[T_,F_,F_,F_,F_,F_,F_,F_,F_,F_,F_,F_,F_,F_,F_,F_,F_,F_,F_,F_,F_,F_,F_,F_,F_,F_,F_,F_,F_,F_,F_,F_] rfl rfl (any_of HT_.out (by kernel_rfl)) (fun _ _ _ h => h) (Or.inl ⟨by rfl, ?_⟩) ?_ ?_
           rotate_left
           ·
            intro w'; go_simp; with_reducible rfl
           rotate_left
           ·
            exact zp_
           refine take_ (i := 1) (N := some 100) (v := ?_) (a' := ?_) #[T_,T_,F_,F_,F_,F_,F_,F_,F_,F_,F_,F_,F_,F_,F_,F_,F_,F_,F_,F_,F_,F_,F_,F_,F_,F_,F_,F_,F_,F_,F_,F_] rfl rfl (take_ofW HT_.out HW_.out (by kernel_rfl)) (fun _ _ _ h => h) (Or.inl ⟨by rfl, ?_⟩) hHeld ?_ ?_
           rotate_left
           ·
            rintro w' ⟨s0, s1, s2, s3, s4, s5, s6, s7, s8, s9, s10, s11, s12, s13⟩
            go_simp
            with_reducible rfl
           rotate_left
           ·
            exact zp_
           refine pure_ (i := 2) (N := some 101) (v := ?_) (a' := ?_) #[T_,T_,T_,F_,F_,F_,F_,F_,F_,F_,F_,F_,F_,F_,F_,F_,F_,F_,F_,F_,F_,F_,F_,F_,F_,F_,F_,F_,F_,F_,F_,F_] rfl rfl (any_of HT_.out (by kernel_rfl)) (fun _ _ _ h => h) (Or.inl ⟨by rfl, ?_⟩) ?_ ?_
           rotate_left
           ·
            intro w'; go_simp; with_reducible rfl
           rotate_left
           ·
            exact zp_
           refine take_ (i := 3) (N := some 102) (v := ?_) (a' := ?_) #[T_,T_,T_,T_,F_,F_,F_,F_,F_,F_,F_,F_,F_,F_,F_,F_,F_,F_,F_,F_,F_,F_,F_,F_,F_,F_,F_,F_,F_,F_,F_,F_] rfl rfl (take_ofW HT_.out HW_.out (by kernel_rfl)) (fun _ _ _ h => h) (Or.inl ⟨by rfl, ?_⟩) hHeld ?_ ?_
           rotate_left
           ·
            rintro w' ⟨s0, s1, s2, s3, s4, s5, s6, s7, s8, s9, s10, s11, s12, s13⟩
            go_simp
            with_reducible rfl
           rotate_left
           ·
            exact zp_
           refine pure_ (i := 4) (N := some 103) (v := ?_) (a' := ?_) #[T_,T_,T_,T_,T_,F_,F_,F_,F_,F_,F_,F_,F_,F_,F_,F_,F_,F_,F_,F_,F_,F_,F_,F_,F_,F_,F_,F_,F_,F_,F_,F_] rfl rfl (any_of HT_.out (by kernel_rfl)) (fun _ _ _ h => h) (Or.inl ⟨by rfl, ?_⟩) ?_ ?_
           rotate_left
           ·
            intro w'; go_simp; with_reducible rfl
           rotate_left
           ·
            exact zp_
           refine pure_ (i := 5) (N := some 104) (v := ?_) (a' := ?_) #[T_,T_,T_,T_,T_,T_,F_,F_,F_,F_,F_,F_,F_,F_,F_,F_,F_,F_,F_,F_,F_,F_,F_,F_,F_,F_,F_,F_,F_,F_,F_,F_] rfl rfl (any_of HT_.out (by kernel_rfl)) (fun _ _ _ h => h) (Or.inl ⟨by rfl, ?_⟩) ?_ ?_
           rotate_left
           ·
            intro w'; go_simp; with_reducible rfl
           rotate_left
           ·
            exact zp_
           refine pure_ (i := 7) (N := some 106) (v := ?_) (a' := ?_) #[T_,T_,T_,T_,T_,T_,F_,T_,F_,F_,F_,F_,F_,F_,F_,F_,F_,F_,F_,F_,F_,F_,F_,F_,F_,F_,F_,F_,F_,F_,F_,F_] rfl rfl (any_of HT_.out (by kernel_rfl)) (fun _ _ _ h => h) (Or.inl ⟨by rfl, ?_⟩) ?_ ?_
           rotate_left
           ·
            intro w'; go_simp; with_reducible rfl
           rotate_left
           ·
            exact zp_
           refine take_ (i := 6) (N := some 105) (v := ?_) (a' := ?_) #[T_,T_,T_,T_,T_,T_,T_,T_,F_,F_,F_,F_,F_,F_,F_,F_,F_,F_,F_,F_,F_,F_,F_,F_,F_,F_,F_,F_,F_,F_,F_,F_] rfl rfl (take_ofW HT_.out HW_.out (by kernel_rfl)) (fun _ _ _ h => h) (Or.inl ⟨by rfl, ?_⟩) hHeld ?_ ?_
           rotate_left
           ·
            rintro w' ⟨s0, s1, s2, s3, s4, s5, s6, s7, s8, s9, s10, s11, s12, s13⟩
            go_simp
            with_reducible rfl
           rotate_left
           ·
            exact zp_
           refine take_ (i := 8) (N := some 107) (v := ?_) (a' := ?_) #[T_,T_,T_,T_,T_,T_,T_,T_,T_,F_,F_,F_,F_,F_,F_,F_,F_,F_,F_,F_,F_,F_,F_,F_,F_,F_,F_,F_,F_,F_,F_,F_] rfl rfl (take_ofW HT_.out HW_.out (by kernel_rfl)) (fun _ _ _ h => h) (Or.inl ⟨by rfl, ?_⟩) hHeld ?_ ?_
           rotate_left
           ·
            rintro w' ⟨s0, s1, s2, s3, s4, s5, s6, s7, s8, s9, s10, s11, s12, s13⟩
            go_simp
            with_reducible rfl
           rotate_left
           ·
            exact zp_
           refine pure_ (i := 9) (N := some 108) (v := ?_) (a' := ?_) #[T_,T_,T_,T_,T_,T_,T_,T_,T_,T_,F_,F_,F_,F_,F_,F_,F_,F_,F_,F_,F_,F_,F_,F_,F_,F_,F_,F_,F_,F_,F_,F_] rfl rfl (any_of HT_.out (by kernel_rfl)) (fun _ _ _ h => h) (Or.inl ⟨by rfl, ?_⟩) ?_ ?_
           rotate_left
           ·
            intro w'; go_simp; with_reducible rfl
           rotate_left
           ·
            exact zp_
           refine pure_ (i := 10) (N := some 109) (v := ?_) (a' := ?_) #[T_,T_,T_,T_,T_,T_,T_,T_,T_,T_,T_,F_,F_,F_,F_,F_,F_,F_,F_,F_,F_,F_,F_,F_,F_,F_,F_,F_,F_,F_,F_,F_] rfl rfl (any_of HT_.out (by kernel_rfl)) (fun _ _ _ h => h) (Or.inl ⟨by rfl, ?_⟩) ?_ ?_
           rotate_left
           ·
            intro w'; go_simp; with_reducible rfl
           rotate_left
           ·
            exact zp_
           refine pure_ (i := 11) (N := some 110) (v := ?_) (a' := ?_) #[T_,T_,T_,T_,T_,T_,T_,T_,T_,T_,T_,T_,F_,F_,F_,F_,F_,F_,F_,F_,F_,F_,F_,F_,F_,F_,F_,F_,F_,F_,F_,F_] rfl rfl (any_of HT_.out (by kernel_rfl)) (fun _ _ _ h => h) (Or.inl ⟨by rfl, ?_⟩) ?_ ?_
           rotate_left
           ·
            intro w'; go_simp; with_reducible rfl
           rotate_left
           ·
            exact zp_
           refine pure_ (i := 14) (N := some 113) (v := ?_) (a' := ?_) #[T_,T_,T_,T_,T_,T_,T_,T_,T_,T_,T_,T_,F_,F_,T_,F_,F_,F_,F_,F_,F_,F_,F_,F_,F_,F_,F_,F_,F_,F_,F_,F_] rfl rfl (any_of HT_.out (by kernel_rfl)) (fun _ _ _ h => h) (Or.inl ⟨by rfl, ?_⟩) ?_ ?_
           rotate_left
           ·
            intro w'; go_simp; with_reducible rfl
           rotate_left
           ·
            exact zp_
           refine take_ (i := 12) (N := some 111) (v := ?_) (a' := ?_) #[T_,T_,T_,T_,T_,T_,T_,T_,T_,T_,T_,T_,T_,F_,T_,F_,F_,F_,F_,F_,F_,F_,F_,F_,F_,F_,F_,F_,F_,F_,F_,F_] rfl rfl (take_ofW HT_.out HW_.out (by kernel_rfl)) (fun _ _ _ h => h) (Or.inl ⟨by rfl, ?_⟩) hHeld ?_ ?_
           rotate_left
           ·
            rintro w' ⟨s0, s1, s2, s3, s4, s5, s6, s7, s8, s9, s10, s11, s12, s13⟩
            go_simp
            with_reducible rfl
           rotate_left
           ·
            exact zp_
           refine take_ (i := 13) (N := some 112) (v := ?_) (a' := ?_) #[T_,T_,T_,T_,T_,T_,T_,T_,T_,T_,T_,T_,T_,T_,T_,F_,F_,F_,F_,F_,F_,F_,F_,F_,F_,F_,F_,F_,F_,F_,F_,F_] rfl rfl (take_ofW HT_.out HW_.out (by kernel_rfl)) (fun _ _ _ h => h) (Or.inl ⟨by rfl, ?_⟩) hHeld ?_ ?_
           rotate_left
           ·
            rintro w' ⟨s0, s1, s2, s3, s4, s5, s6, s7, s8, s9, s10, s11, s12, s13⟩
            go_simp
            with_reducible rfl
           rotate_left
           ·
            exact zp_
           refine take_ (i := 15) (N := some 114) (v := ?_) (a' := ?_) #[T_,T_,T_,T_,T_,T_,T_,T_,T_,T_,T_,T_,T_,T_,T_,T_,F_,F_,F_,F_,F_,F_,F_,F_,F_,F_,F_,F_,F_,F_,F_,F_] rfl rfl (take_ofW HT_.out HW_.out (by kernel_rfl)) (fun _ _ _ h => h) (Or.inl ⟨by rfl, ?_⟩) hHeld ?_ ?_
           rotate_left
           ·
            rintro w' ⟨s0, s1, s2, s3, s4, s5, s6, s7, s8, s9, s10, s11, s12, s13⟩
            go_simp
            with_reducible rfl
           rotate_left
           ·
            exact zp_
           refine take_ (i := 16) (N := some 115) (v := ?_) (a' := ?_) #[T_,T_,T_,T_,T_,T_,T_,T_,T_,T_,T_,T_,T_,T_,T_,T_,T_,F_,F_,F_,F_,F_,F_,F_,F_,F_,F_,F_,F_,F_,F_,F_] rfl rfl (take_ofW HT_.out HW_.out (by kernel_rfl)) (fun _ _ _ h => h) (Or.inl ⟨by rfl, ?_⟩) hHeld ?_ ?_
           rotate_left
           ·
            rintro w' ⟨s0, s1, s2, s3, s4, s5, s6, s7, s8, s9, s10, s11, s12, s13⟩
            go_simp
            with_reducible rfl
           rotate_left
           ·
            exact zp_
           refine pure_ (i := 17) (N := some 116) (v := ?_) (a' := ?_) #[T_,T_,T_,T_,T_,T_,T_,T_,T_,T_,T_,T_,T_,T_,T_,T_,T_,T_,F_,F_,F_,F_,F_,F_,F_,F_,F_,F_,F_,F_,F_,F_] rfl rfl (any_of HT_.out (by kernel_rfl)) (fun _ _ _ h => h) (Or.inl ⟨by rfl, ?_⟩) ?_ ?_
           rotate_left
           ·
            intro w'; go_simp; with_reducible rfl
           rotate_left
           ·
            exact zp_
           refine pure_ (i := 18) (N := some 117) (v := ?_) (a' := ?_) #[T_,T_,T_,T_,T_,T_,T_,T_,T_,T_,T_,T_,T_,T_,T_,T_,T_,T_,T_,F_,F_,F_,F_,F_,F_,F_,F_,F_,F_,F_,F_,F_] rfl rfl (any_of HT_.out (by kernel_rfl)) (fun _ _ _ h => h) (Or.inl ⟨by rfl, ?_⟩) ?_ ?_
           rotate_left
           ·
            intro w'; go_simp; with_reducible rfl
           rotate_left
           ·
            exact zp_
           refine pure_ (i := 19) (N := some 118) (v := ?_) (a' := ?_) #[T_,T_,T_,T_,T_,T_,T_,T_,T_,T_,T_,T_,T_,T_,T_,T_,T_,T_,T_,T_,F_,F_,F_,F_,F_,F_,F_,F_,F_,F_,F_,F_] rfl rfl (any_of HT_.out (by kernel_rfl)) (fun _ _ _ h => h) (Or.inl ⟨by rfl, ?_⟩) ?_ ?_
           rotate_left
           ·
            intro w'; go_simp; with_reducible rfl
           rotate_left
           ·
            exact zp_
           refine pure_ (i := 20) (N := some 119) (v := ?_) (a' := ?_) #[T_,T_,T_,T_,T_,T_,T_,T_,T_,T_,T_,T_,T_,T_,T_,T_,T_,T_,T_,T_,T_,F_,F_,F_,F_,F_,F_,F_,F_,F_,F_,F_] rfl rfl (any_of HT_.out (by kernel_rfl)) (fun _ _ _ h => h) (Or.inl ⟨by rfl, ?_⟩) ?_ ?_
           rotate_left
           ·
            intro w'; go_simp; with_reducible rfl
           rotate_left
           ·
            exact zp_
           refine pure_ (i := 21) (N := some 120) (v := undef) (a' := ?_) #[T_,T_,T_,T_,T_,T_,T_,T_,T_,T_,T_,T_,T_,T_,T_,T_,T_,T_,T_,T_,T_,T_,F_,F_,F_,F_,F_,F_,F_,F_,F_,F_] rfl rfl (any_of HT_.out (by kernel_rfl)) (fun _ _ _ h => h) (Or.inr ⟨by rfl, rfl⟩) ?_ ?_
           rotate_left
           ·
            exact zp_
           refine pure_ (i := 22) (N := some 121) (v := undef) (a' := ?_) #[T_,T_,T_,T_,T_,T_,T_,T_,T_,T_,T_,T_,T_,T_,T_,T_,T_,T_,T_,T_,T_,T_,T_,F_,F_,F_,F_,F_,F_,F_,F_,F_] rfl rfl (any_of HT_.out (by kernel_rfl)) (fun _ _ _ h => h) (Or.inr ⟨by rfl, rfl⟩) ?_ ?_
           rotate_left
           ·
            exact zp_
           refine pure_ (i := 23) (N := some 122) (v := undef) (a' := ?_) #[T_,T_,T_,T_,T_,T_,T_,T_,T_,T_,T_,T_,T_,T_,T_,T_,T_,T_,T_,T_,T_,T_,T_,T_,F_,F_,F_,F_,F_,F_,F_,F_] rfl rfl (any_of HT_.out (by kernel_rfl)) (fun _ _ _ h => h) (Or.inr ⟨by rfl, rfl⟩) ?_ ?_
           rotate_left
           ·
            exact zp_
           refine pure_ (i := 24) (N := some 123) (v := undef) (a' := ?_) #[T_,T_,T_,T_,T_,T_,T_,T_,T_,T_,T_,T_,T_,T_,T_,T_,T_,T_,T_,T_,T_,T_,T_,T_,T_,F_,F_,F_,F_,F_,F_,F_] rfl rfl (any_of HT_.out (by kernel_rfl)) (fun _ _ _ h => h) (Or.inr ⟨by rfl, rfl⟩) ?_ ?_
           rotate_left
           ·
            exact zp_
           refine pure_ (i := 25) (N := some 124) (v := undef) (a' := ?_) #[T_,T_,T_,T_,T_,T_,T_,T_,T_,T_,T_,T_,T_,T_,T_,T_,T_,T_,T_,T_,T_,T_,T_,T_,T_,T_,F_,F_,F_,F_,F_,F_] rfl rfl (any_of HT_.out (by kernel_rfl)) (fun _ _ _ h => h) (Or.inr ⟨by rfl, rfl⟩) ?_ ?_
           rotate_left
           ·
            exact zp_
           refine pure_ (i := 26) (N := some 125) (v := undef) (a' := ?_) #[T_,T_,T_,T_,T_,T_,T_,T_,T_,T_,T_,T_,T_,T_,T_,T_,T_,T_,T_,T_,T_,T_,T_,T_,T_,T_,T_,F_,F_,F_,F_,F_] rfl rfl (any_of HT_.out (by kernel_rfl)) (fun _ _ _ h => h) (Or.inr ⟨by rfl, rfl⟩) ?_ ?_
           rotate_left
           ·
            exact zp_
           refine pure_ (i := 27) (N := some 126) (v := undef) (a' := ?_) #[T_,T_,T_,T_,T_,T_,T_,T_,T_,T_,T_,T_,T_,T_,T_,T_,T_,T_,T_,T_,T_,T_,T_,T_,T_,T_,T_,T_,F_,F_,F_,F_] rfl rfl (any_of HT_.out (by kernel_rfl)) (fun _ _ _ h => h) (Or.inr ⟨by rfl, rfl⟩) ?_ ?_
           rotate_left
           ·
            exact zp_
           refine pure_ (i := 28) (N := some 127) (v := undef) (a' := ?_) #[T_,T_,T_,T_,T_,T_,T_,T_,T_,T_,T_,T_,T_,T_,T_,T_,T_,T_,T_,T_,T_,T_,T_,T_,T_,T_,T_,T_,T_,F_,F_,F_] rfl rfl (any_of HT_.out (by kernel_rfl)) (fun _ _ _ h => h) (Or.inr ⟨by rfl, rfl⟩) ?_ ?_
           rotate_left
           ·
            exact zp_
           refine pure_ (i := 29) (N := some 128) (v := undef) (a' := ?_) #[T_,T_,T_,T_,T_,T_,T_,T_,T_,T_,T_,T_,T_,T_,T_,T_,T_,T_,T_,T_,T_,T_,T_,T_,T_,T_,T_,T_,T_,T_,F_,F_] rfl rfl (any_of HT_.out (by kernel_rfl)) (fun _ _ _ h => h) (Or.inr ⟨by rfl, rfl⟩) ?_ ?_
           rotate_left
           ·
            exact zp_
           refine pure_ (i := 30) (N := some 129) (v := ?_) (a' := ?_) #[T_,T_,T_,T_,T_,T_,T_,T_,T_,T_,T_,T_,T_,T_,T_,T_,T_,T_,T_,T_,T_,T_,T_,T_,T_,T_,T_,T_,T_,T_,T_,F_] rfl rfl (any_of HT_.out (by kernel_rfl)) (fun _ _ _ h => h) (Or.inl ⟨by rfl, ?_⟩) ?_ ?_
           rotate_left
           ·
            intro w'; go_simp; with_reducible rfl
           rotate_left
           ·
            exact zp_
           refine pure_ (i := 31) (N := some 8) (v := ?_) (a' := ?_) #[T_,T_,T_,T_,T_,T_,T_,T_,T_,T_,T_,T_,T_,T_,T_,T_,T_,T_,T_,T_,T_,T_,T_,T_,T_,T_,T_,T_,T_,T_,T_,T_] rfl rfl (any_of HT_.out (by kernel_rfl)) (fun _ _ _ h => h) (Or.inl ⟨by rfl, ?_⟩) ?_ ?_
           rotate_left
           ·
            intro w'; go_simp; with_reducible rfl
           rotate_left
           ·
            exact zp_
           refine done_ (done_of HT_.out (by kernel_rfl)) ?_
           (try clear hHeld); (try clear HS0_)
           try go_wp2
           go_ret
           exact ⟨by first | rfl | (simp [errW_none, errW_some] <;> rfl) | (simp [*, errW_none, errW_some] <;> rfl), by repeat (first | (with_reducible first | exact HB.out | apply below_alloc | apply pw_below_drewN | apply below_drew1 | refine below_set ?_ GE262.out | refine below_set ?_ GE263.out | refine below_set ?_ GE264.out | refine below_set ?_ GE265.out) | exact HB.out)⟩
         ·
          rw [if_neg c113] at H
          have c113b0 : ((a0_0 == a1_0 && (a0_1 == a1_1)) && (a0_2 == a1_2 && (a0_3 == a1_3))) = false := by simpa using c113
          clear c113
          by_cases c163 : (((strOfNums t272).toList == (strOfNums t276).toList) == false) = true
          ·
           rw [if_pos c163] at H
           have c163b0 : (((strOfNums t272).toList == (strOfNums t276).toList) == false) = true := c163
           (try (have c163b1 : decide (((strOfNums t272).toList == (strOfNums t276).toList) = false) = true := by simpa using c163))
           (try (have c163b2 : (((strOfNums t272).toList == (strOfNums t276).toList) == false) = true := by simpa using c163))
           clear c163
           replace H := Option.bind_eq_some_iff.mp H
           obtain ⟨t289, A1640, H⟩ := H
           replace H : (some (((strOfNums t280).toList == (strOfNums t284).toList) == t289)) = some r := H
           have A164 := Aside0.mk A1640
           clear A1640
           obtain rfl := Option.some.inj H
           have hnb165 := NB262_263.out
           have hnc165 := NB263_262.out
           have hnb166 := NB262_264.out
           have hnc166 := NB264_262.out
           have hnb167 := NB262_265.out
           have hnc167 := NB265_262.out
           have hcz168_0 : wc.cell? ⟨gb262, 0, none⟩ = some (.int .u64 a0_0) := (blk_cell BK262.out 0).trans rfl
           have hcz168_1 : wc.cell? ⟨gb262, 1, none⟩ = some (.int .i64 a0_1) := (blk_cell BK262.out 1).trans rfl
           have hcz168_2 : wc.cell? ⟨gb262, 2, none⟩ = some (.int .u64 a0_2) := (blk_cell BK262.out 2).trans rfl
           have hcz168_3 : wc.cell? ⟨gb262, 3, none⟩ = some (.int .i64 a0_3) := (blk_cell BK262.out 3).trans rfl
           have hcz168_4 : wc.cell? ⟨gb262, 4, none⟩ = some (.slice A0_4 l0_4.length c0_4) := (blk_cell BK262.out 4).trans rfl
           have hfz168_0 := blk_frozen BK262.out 0
           have hfz168_1 := blk_frozen BK262.out 1
           have hfz168_2 := blk_frozen BK262.out 2
           have hfz168_3 := blk_frozen BK262.out 3
           have hfz168_4 := blk_frozen BK262.out 4
           try go_wp2_with (first | ((with_reducible refine gate_callee (f := 46) rfl ?_); refine goesL_ (some 60) rfl rfl Try.func46 (by kernel_rfl) rfl #[.agg #[.int .u64 a0_0, .int .i64 a0_1, .int .u64 a0_2, .int .i64 a0_3, .slice A0_4 l0_4.length c0_4]] rfl za_ ?_; (with_reducible refine (content_EncodeOne.calls kj4 a0_0 a0_1 a0_2 a0_3 _ _ l0_4 t272 t275 _ ?side1 ?side2 A88.out).mono ?_); (case side1 => exact zc_ HR0_4 HB); (case side2 => exact HC0_4.out); rintro e w169 ⟨v273, rfl, ho0, hb⟩; refine ⟨_, rfl, ?_⟩; have n0_ := Aside0.mk (Kd.R_lower ho0 (below_size zb_)); have n1_ := zk_ BK262 hb; have n2_ := zk_ BK263 hb; have n3_ := zk_ BK264 hb; have n4_ := zk_ BK265 hb; have n5_ := Aside0.mk (below_step zb_ hb); clear BK262; clear BK263; clear BK264; clear BK265; clear HB; have HO274 := n0_; have BK262 := n1_; have BK263 := n2_; have BK264 := n3_; have BK265 := n4_; have HB := n5_; clear n0_ n1_ n2_ n3_ n4_ n5_; (try clear hb); (try clear hb2); (try clear hk); (try clear hi); (try clear ho0); have hnb170 := NB263_264.out; have hnc170 := NB264_263.out; have hnb171 := NB263_265.out; have hnc171 := NB265_263.out; have hcz172_0 : w169.cell? ⟨gb263, 0, none⟩ = some (.int .u64 a1_0) := (blk_cell BK263.out 0).trans rfl; have hcz172_1 : w169.cell? ⟨gb263, 1, none⟩ = some (.int .i64 a1_1) := (blk_cell BK263.out 1).trans rfl; have hcz172_2 : w169.cell? ⟨gb263, 2, none⟩ = some (.int .u64 a1_2) := (blk_cell BK263.out 2).trans rfl; have hcz172_3 : w169.cell? ⟨gb263, 3, none⟩ = some (.int .i64 a1_3) := (blk_cell BK263.out 3).trans rfl; have hcz172_4 : w169.cell? ⟨gb263, 4, none⟩ = some (.slice A1_4 l1_4.length c1_4) := (blk_cell BK263.out 4).trans rfl; have hfz172_0 := blk_frozen BK263.out 0; have hfz172_1 := blk_frozen BK263.out 1; have hfz172_2 := blk_frozen BK263.out 2; have hfz172_3 := blk_frozen BK263.out 3; have hfz172_4 := blk_frozen BK263.out 4) | ((with_reducible refine gate_callee (f := 46) rfl ?_); refine goesL_ (some 65) rfl rfl Try.func46 (by kernel_rfl) rfl #[.agg #[.int .u64 a1_0, .int .i64 a1_1, .int .u64 a1_2, .int .i64 a1_3, .slice A1_4 l1_4.length c1_4]] rfl za_ ?_; (with_reducible refine (content_EncodeOne.calls kj4 a1_0 a1_1 a1_2 a1_3 _ _ l1_4 t276 t279 _ ?side1 ?side2 A89.out).mono ?_); (case side1 => exact zc_ HR1_4 HB); (case side2 => exact HC1_4.out); rintro e w173 ⟨v277, rfl, ho0, hb⟩; refine ⟨_, rfl, ?_⟩; have n0_ := Aside0.mk (Kd.R_elder' (zr_ HO274) (Kd.R_base ho0) hb); have n1_ := Aside0.mk (Kd.R_lower (Kd.R_new' ho0 (Kd.R_lt (zr_ HO274))) (below_size zb_)); have n2_ := zk_ BK262 hb; have n3_ := zk_ BK263 hb; have n4_ := zk_ BK264 hb; have n5_ := zk_ BK265 hb; have n6_ := Aside0.mk (below_step zb_ hb); clear HO274; clear BK262; clear BK263; clear BK264; clear BK265; clear HB; have HO274 := n0_; have HO278 := n1_; have BK262 := n2_; have BK263 := n3_; have BK264 := n4_; have BK265 := n5_; have HB := n6_; clear n0_ n1_ n2_ n3_ n4_ n5_ n6_; (try clear hb); (try clear hb2); (try clear hk); (try clear hi); (try clear ho0); have hnb174 := NB264_265.out; have hnc174 := NB265_264.out; have hcz175_0 : w173.cell? ⟨gb264, 0, none⟩ = some (.slice A2_0 l2_0.length c2_0) := (blk_cell BK264.out 0).trans rfl; have hcz175_1 : w173.cell? ⟨gb264, 1, none⟩ = some (.slice A2_1 l2_1.length c2_1) := (blk_cell BK264.out 1).trans rfl; have hcz175_2 : w173.cell? ⟨gb264, 2, none⟩ = some (.int .i64 a2_2) := (blk_cell BK264.out 2).trans rfl; have hcz175_3 : w173.cell? ⟨gb264, 3, none⟩ = some (.int .u64 a2_3) := (blk_cell BK264.out 3).trans rfl; have hcz175_4 : w173.cell? ⟨gb264, 4, none⟩ = some (.int .i64 a2_4) := (blk_cell BK264.out 4).trans rfl; have hfz175_0 := blk_frozen BK264.out 0; have hfz175_1 := blk_frozen BK264.out 1; have hfz175_2 := blk_frozen BK264.out 2; have hfz175_3 := blk_frozen BK264.out 3; have hfz175_4 := blk_frozen BK264.out 4) | ((with_reducible refine gate_callee (f := 47) rfl ?_); refine goesL_ (some 70) rfl rfl Try.func47 (by kernel_rfl) rfl #[.agg #[.slice A2_0 l2_0.length c2_0, .slice A2_1 l2_1.length c2_1, .int .i64 a2_2, .int .u64 a2_3, .int .i64 a2_4]] rfl za_ ?_; (with_reducible refine (content_EncodeAll.calls kj4 _ _ l2_0 _ _ l2_1 a2_2 a2_3 a2_4 t280 t283 _ ?side1 ?side2 ?side3 ?side4 A90.out).mono ?_); (case side1 => exact zc_ HR2_0 HB); (case side2 => exact HC2_0.out); (case side3 => exact zc_ HR2_1 HB); (case side4 => exact HC2_1.out); rintro e w176 ⟨v281, rfl, ho0, hb⟩; refine ⟨_, rfl, ?_⟩; have n0_ := Aside0.mk (Kd.R_elder' (zr_ HO274) (Kd.R_base ho0) hb); have n1_ := Aside0.mk (Kd.R_elder' (zr_ HO278) (Kd.R_base ho0) hb); have n2_ := Aside0.mk (Kd.R_lower (Kd.R_new' (Kd.R_new' ho0 (Kd.R_lt (zr_ HO274))) (Kd.R_lt (zr_ HO278))) (below_size zb_)); have n3_ := zk_ BK262 hb; have n4_ := zk_ BK263 hb; have n5_ := zk_ BK264 hb; have n6_ := zk_ BK265 hb; have n7_ := Aside0.mk (below_step zb_ hb); clear HO274; clear HO278; clear BK262; clear BK263; clear BK264; clear BK265; clear HB; have HO274 := n0_; have HO278 := n1_; have HO282 := n2_; have BK262 := n3_; have BK263 := n4_; have BK264 := n5_; have BK265 := n6_; have HB := n7_; clear n0_ n1_ n2_ n3_ n4_ n5_ n6_ n7_; (try clear hb); (try clear hb2); (try clear hk); (try clear hi); (try clear ho0); have hcz177_0 : w176.cell? ⟨gb265, 0, none⟩ = some (.slice A3_0 l3_0.length c3_0) := (blk_cell BK265.out 0).trans rfl; have hcz177_1 : w176.cell? ⟨gb265, 1, none⟩ = some (.slice A3_1 l3_1.length c3_1) := (blk_cell BK265.out 1).trans rfl; have hcz177_2 : w176.cell? ⟨gb265, 2, none⟩ = some (.int .i64 a3_2) := (blk_cell BK265.out 2).trans rfl; have hcz177_3 : w176.cell? ⟨gb265, 3, none⟩ = some (.int .u64 a3_3) := (blk_cell BK265.out 3).trans rfl; have hcz177_4 : w176.cell? ⟨gb265, 4, none⟩ = some (.int .i64 a3_4) := (blk_cell BK265.out 4).trans rfl; have hfz177_0 := blk_frozen BK265.out 0; have hfz177_1 := blk_frozen BK265.out 1; have hfz177_2 := blk_frozen BK265.out 2; have hfz177_3 := blk_frozen BK265.out 3; have hfz177_4 := blk_frozen BK265.out 4) | ((with_reducible refine gate_callee (f := 47) rfl ?_); refine goesL_ (some 75) rfl rfl Try.func47 (by kernel_rfl) rfl #[.agg #[.slice A3_0 l3_0.length c3_0, .slice A3_1 l3_1.length c3_1, .int .i64 a3_2, .int .u64 a3_3, .int .i64 a3_4]] rfl za_ ?_; (with_reducible refine (content_EncodeAll.calls kj4 _ _ l3_0 _ _ l3_1 a3_2 a3_3 a3_4 t284 t287 _ ?side1 ?side2 ?side3 ?side4 A91.out).mono ?_); (case side1 => exact zc_ HR3_0 HB); (case side2 => exact HC3_0.out); (case side3 => exact zc_ HR3_1 HB); (case side4 => exact HC3_1.out); rintro e w178 ⟨v285, rfl, ho0, hb⟩; refine ⟨_, rfl, ?_⟩; have n0_ := Aside0.mk (Kd.R_elder' (zr_ HO274) (Kd.R_base ho0) hb); have n1_ := Aside0.mk (Kd.R_elder' (zr_ HO278) (Kd.R_base ho0) hb); have n2_ := Aside0.mk (Kd.R_elder' (zr_ HO282) (Kd.R_base ho0) hb); have n3_ := Aside0.mk (Kd.R_lower (Kd.R_new' (Kd.R_new' (Kd.R_new' ho0 (Kd.R_lt (zr_ HO274))) (Kd.R_lt (zr_ HO278))) (Kd.R_lt (zr_ HO282))) (below_size zb_)); have n4_ := zk_ BK262 hb; have n5_ := zk_ BK263 hb; have n6_ := zk_ BK264 hb; have n7_ := zk_ BK265 hb; have n8_ := Aside0.mk (below_step zb_ hb); clear HO274; clear HO278; clear HO282; clear BK262; clear BK263; clear BK264; clear BK265; clear HB; have HO274 := n0_; have HO278 := n1_; have HO282 := n2_; have HO286 := n3_; have BK262 := n4_; have BK263 := n5_; have BK264 := n6_; have BK265 := n7_; have HB := n8_; clear n0_ n1_ n2_ n3_ n4_ n5_ n6_ n7_ n8_; (try clear hb); (try clear hb2); (try clear hk); (try clear hi); (try clear ho0); have hcv179 := own_string (P := Try.prog) Try.underlying30 Try.underlying5 Try.underlying9 (Kd.own_of_R HO274.out); have hcv180 := own_string (P := Try.prog) Try.underlying30 Try.underlying5 Try.underlying9 (Kd.own_of_R HO282.out)))
           have n0_ := Aside0.mk (Kd.R_drew HO274.out)
           have n1_ := Aside0.mk (Kd.R_drew HO278.out)
           have n2_ := Aside0.mk (Kd.R_drew HO282.out)
           have n3_ := Aside0.mk (Kd.R_drew HO286.out)
           have n4_ := Aside0.mk (blk_drew BK262.out)
           have n5_ := Aside0.mk (blk_drew BK263.out)
           have n6_ := Aside0.mk (blk_drew BK264.out)
           have n7_ := Aside0.mk (blk_drew BK265.out)
           have n8_ := Aside0.mk (below_drew1 HB.out)
           clear HO274
           clear HO278
           clear HO282
           clear HO286
           clear BK262
           clear BK263
           clear BK264
           clear BK265
           clear HB
           have HO274 := n0_
           have HO278 := n1_
           have HO282 := n2_
           have HO286 := n3_
           have BK262 := n4_
           have BK263 := n5_
           have BK264 := n6_
           have BK265 := n7_
           have HB := n8_
           clear n0_ n1_ n2_ n3_ n4_ n5_ n6_ n7_ n8_
           have hcv182 := own_string (P := Try.prog) Try.underlying30 Try.underlying5 Try.underlying9 (Kd.own_of_R HO274.out)
           have hcv182d := fun n_ : Nat => own_string (P := Try.prog) Try.underlying30 Try.underlying5 Try.underlying9 (Kd.own_of_R (Kd.R_drewN HO274.out n_))
           have hcv183 := own_string (P := Try.prog) Try.underlying30 Try.underlying5 Try.underlying9 (Kd.own_of_R HO278.out)
           have hcv183d := fun n_ : Nat => own_string (P := Try.prog) Try.underlying30 Try.underlying5 Try.underlying9 (Kd.own_of_R (Kd.R_drewN HO278.out n_))
           have hcv184 := own_string (P := Try.prog) Try.underlying30 Try.underlying5 Try.underlying9 (Kd.own_of_R HO282.out)
           have hcv184d := fun n_ : Nat => own_string (P := Try.prog) Try.underlying30 Try.underlying5 Try.underlying9 (Kd.own_of_R (Kd.R_drewN HO282.out n_))
           have hcv185 := own_string (P := Try.prog) Try.underlying30 Try.underlying5 Try.underlying9 (Kd.own_of_R HO286.out)
           have hcv185d := fun n_ : Nat => own_string (P := Try.prog) Try.underlying30 Try.underlying5 Try.underlying9 (Kd.own_of_R (Kd.R_drewN HO286.out n_))
           refine start_ (n := 32) (S := fun w' => w'.cell? ⟨gb262, 0, none⟩ = some (.int .u64 a0_0) ∧ w'.cell? ⟨gb262, 1, none⟩ = some (.int .i64 a0_1) ∧ w'.cell? ⟨gb262, 2, none⟩ = some (.int .u64 a0_2) ∧ w'.cell? ⟨gb262, 3, none⟩ = some (.int .i64 a0_3) ∧ w'.cell? ⟨gb262, 4, none⟩ = some (.slice A0_4 l0_4.length c0_4) ∧ w'.cell? ⟨gb263, 0, none⟩ = some (.int .u64 a1_0) ∧ w'.cell? ⟨gb263, 1, none⟩ = some (.int .i64 a1_1) ∧ w'.cell? ⟨gb263, 2, none⟩ = some (.int .u64 a1_2) ∧ w'.cell? ⟨gb263, 3, none⟩ = some (.int .i64 a1_3) ∧ w'.cell? ⟨gb263, 4, none⟩ = some (.slice A1_4 l1_4.length c1_4) ∧ w'.cell? ⟨gb264, 0, none⟩ = some (.slice A2_0 l2_0.length c2_0) ∧ w'.cell? ⟨gb264, 1, none⟩ = some (.slice A2_1 l2_1.length c2_1) ∧ w'.cell? ⟨gb264, 2, none⟩ = some (.int .i64 a2_2) ∧ w'.cell? ⟨gb264, 3, none⟩ = some (.int .u64 a2_3) ∧ w'.cell? ⟨gb264, 4, none⟩ = some (.int .i64 a2_4) ∧ w'.cell? ⟨gb265, 0, none⟩ = some (.slice A3_0 l3_0.length c3_0) ∧ w'.cell? ⟨gb265, 1, none⟩ = some (.slice A3_1 l3_1.length c3_1) ∧ w'.cell? ⟨gb265, 2, none⟩ = some (.int .i64 a3_2) ∧ w'.cell? ⟨gb265, 3, none⟩ = some (.int .u64 a3_3) ∧ w'.cell? ⟨gb265, 4, none⟩ = some (.int .i64 a3_4) ∧ (convert 30 9 v273).run Try.prog w' = .ok (.string (strOfNums t272)) w' ∧ (convert 30 9 v277).run Try.prog w' = .ok (.string (strOfNums t276)) w' ∧ (convert 30 9 v281).run Try.prog w' = .ok (.string (strOfNums t280)) w' ∧ (convert 30 9 v285).run Try.prog w' = .ok (.string (strOfNums t284)) w') (ds := []) #[F_,F_,F_,F_,F_,F_,F_,F_,F_,F_,F_,F_,F_,F_,F_,F_,F_,F_,F_,F_,F_,F_,F_,F_,F_,F_,F_,F_,F_,F_,F_,F_] (by kernel_rfl) rfl rfl ⟨(blk_cell BK262.out 0).trans rfl, (blk_cell BK262.out 1).trans rfl, (blk_cell BK262.out 2).trans rfl, (blk_cell BK262.out 3).trans rfl, (blk_cell BK262.out 4).trans rfl, (blk_cell BK263.out 0).trans rfl, (blk_cell BK263.out 1).trans rfl, (blk_cell BK263.out 2).trans rfl, (blk_cell BK263.out 3).trans rfl, (blk_cell BK263.out 4).trans rfl, (blk_cell BK264.out 0).trans rfl, (blk_cell BK264.out 1).trans rfl, (blk_cell BK264.out 2).trans rfl, (blk_cell BK264.out 3).trans rfl, (blk_cell BK264.out 4).trans rfl, (blk_cell BK265.out 0).trans rfl, (blk_cell BK265.out 1).trans rfl, (blk_cell BK265.out 2).trans rfl, (blk_cell BK265.out 3).trans rfl, (blk_cell BK265.out 4).trans rfl, hcv182, hcv183, hcv184, hcv185⟩ (fun hHeld => ?_); refine with_tabW folkmootlaw15_ContentApart.tab9 folkmootlaw15_ContentApart.bits9 (fun HT_ HW_ => ?_)
           generalize w178.drew = w181 at HO274 HO278 HO282 HO286 BK262 BK263 BK264 BK265 HB hHeld ⊢
           refine pure_ (i := 0) (N := some 99) (v := ?_) (a' := ?_) #[T_,F_,F_,F_,F_,F_,F_,F_,F_,F_,F_,F_,F_,F_,F_,F_,F_,F_,F_,F_,F_,F_,F_,F_,F_,F_,F_,F_,F_,F_,F_,F_] rfl rfl (any_of HT_.out (by kernel_rfl)) (fun _ _ _ h => h) (Or.inl ⟨by rfl, ?_⟩) ?_ ?_
           rotate_left
           ·
            intro w'; go_simp; with_reducible rfl
           rotate_left
           ·
            exact zp_
           refine take_ (i := 1) (N := some 100) (v := ?_) (a' := ?_) #[T_,T_,F_,F_,F_,F_,F_,F_,F_,F_,F_,F_,F_,F_,F_,F_,F_,F_,F_,F_,F_,F_,F_,F_,F_,F_,F_,F_,F_,F_,F_,F_] rfl rfl (take_ofW HT_.out HW_.out (by kernel_rfl)) (fun _ _ _ h => h) (Or.inl ⟨by rfl, ?_⟩) hHeld ?_ ?_
           rotate_left
           ·
            rintro w' ⟨s0, s1, s2, s3, s4, s5, s6, s7, s8, s9, s10, s11, s12, s13, s14, s15, s16, s17, s18, s19, s20, s21, s22, s23⟩
            go_simp
            with_reducible rfl
           rotate_left
           ·
            exact zp_
           refine pure_ (i := 2) (N := some 101) (v := ?_) (a' := ?_) #[T_,T_,T_,F_,F_,F_,F_,F_,F_,F_,F_,F_,F_,F_,F_,F_,F_,F_,F_,F_,F_,F_,F_,F_,F_,F_,F_,F_,F_,F_,F_,F_] rfl rfl (any_of HT_.out (by kernel_rfl)) (fun _ _ _ h => h) (Or.inl ⟨by rfl, ?_⟩) ?_ ?_
           rotate_left
           ·
            intro w'; go_simp; with_reducible rfl
           rotate_left
           ·
            exact zp_
           refine take_ (i := 3) (N := some 102) (v := ?_) (a' := ?_) #[T_,T_,T_,T_,F_,F_,F_,F_,F_,F_,F_,F_,F_,F_,F_,F_,F_,F_,F_,F_,F_,F_,F_,F_,F_,F_,F_,F_,F_,F_,F_,F_] rfl rfl (take_ofW HT_.out HW_.out (by kernel_rfl)) (fun _ _ _ h => h) (Or.inl ⟨by rfl, ?_⟩) hHeld ?_ ?_
           rotate_left
           ·
            rintro w' ⟨s0, s1, s2, s3, s4, s5, s6, s7, s8, s9, s10, s11, s12, s13, s14, s15, s16, s17, s18, s19, s20, s21, s22, s23⟩
            go_simp
            with_reducible rfl
           rotate_left
           ·
            exact zp_
           refine pure_ (i := 4) (N := some 103) (v := ?_) (a' := ?_) #[T_,T_,T_,T_,T_,F_,F_,F_,F_,F_,F_,F_,F_,F_,F_,F_,F_,F_,F_,F_,F_,F_,F_,F_,F_,F_,F_,F_,F_,F_,F_,F_] rfl rfl (any_of HT_.out (by kernel_rfl)) (fun _ _ _ h => h) (Or.inl ⟨by rfl, ?_⟩) ?_ ?_
           rotate_left
           ·
            intro w'; go_simp; with_reducible rfl
           rotate_left
           ·
            exact zp_
           refine pure_ (i := 5) (N := some 104) (v := ?_) (a' := ?_) #[T_,T_,T_,T_,T_,T_,F_,F_,F_,F_,F_,F_,F_,F_,F_,F_,F_,F_,F_,F_,F_,F_,F_,F_,F_,F_,F_,F_,F_,F_,F_,F_] rfl rfl (any_of HT_.out (by kernel_rfl)) (fun _ _ _ h => h) (Or.inl ⟨by rfl, ?_⟩) ?_ ?_
           rotate_left
           ·
            intro w'; go_simp; with_reducible rfl
           rotate_left
           ·
            exact zp_
           refine pure_ (i := 7) (N := some 106) (v := ?_) (a' := ?_) #[T_,T_,T_,T_,T_,T_,F_,T_,F_,F_,F_,F_,F_,F_,F_,F_,F_,F_,F_,F_,F_,F_,F_,F_,F_,F_,F_,F_,F_,F_,F_,F_] rfl rfl (any_of HT_.out (by kernel_rfl)) (fun _ _ _ h => h) (Or.inl ⟨by rfl, ?_⟩) ?_ ?_
           rotate_left
           ·
            intro w'; go_simp; with_reducible rfl
           rotate_left
           ·
            exact zp_
           refine take_ (i := 6) (N := some 105) (v := ?_) (a' := ?_) #[T_,T_,T_,T_,T_,T_,T_,T_,F_,F_,F_,F_,F_,F_,F_,F_,F_,F_,F_,F_,F_,F_,F_,F_,F_,F_,F_,F_,F_,F_,F_,F_] rfl rfl (take_ofW HT_.out HW_.out (by kernel_rfl)) (fun _ _ _ h => h) (Or.inl ⟨by rfl, ?_⟩) hHeld ?_ ?_
           rotate_left
           ·
            rintro w' ⟨s0, s1, s2, s3, s4, s5, s6, s7, s8, s9, s10, s11, s12, s13, s14, s15, s16, s17, s18, s19, s20, s21, s22, s23⟩
            go_simp
            with_reducible rfl
           rotate_left
           ·
            exact zp_
           refine take_ (i := 8) (N := some 107) (v := ?_) (a' := ?_) #[T_,T_,T_,T_,T_,T_,T_,T_,T_,F_,F_,F_,F_,F_,F_,F_,F_,F_,F_,F_,F_,F_,F_,F_,F_,F_,F_,F_,F_,F_,F_,F_] rfl rfl (take_ofW HT_.out HW_.out (by kernel_rfl)) (fun _ _ _ h => h) (Or.inl ⟨by rfl, ?_⟩) hHeld ?_ ?_
           rotate_left
           ·
            rintro w' ⟨s0, s1, s2, s3, s4, s5, s6, s7, s8, s9, s10, s11, s12, s13, s14, s15, s16, s17, s18, s19, s20, s21, s22, s23⟩
            go_simp
            with_reducible rfl
           rotate_left
           ·
            exact zp_
           refine pure_ (i := 9) (N := some 108) (v := ?_) (a' := ?_) #[T_,T_,T_,T_,T_,T_,T_,T_,T_,T_,F_,F_,F_,F_,F_,F_,F_,F_,F_,F_,F_,F_,F_,F_,F_,F_,F_,F_,F_,F_,F_,F_] rfl rfl (any_of HT_.out (by kernel_rfl)) (fun _ _ _ h => h) (Or.inl ⟨by rfl, ?_⟩) ?_ ?_
           rotate_left
           ·
            intro w'; go_simp; with_reducible rfl
           rotate_left
           ·
            exact zp_
           refine pure_ (i := 10) (N := some 109) (v := ?_) (a' := ?_) #[T_,T_,T_,T_,T_,T_,T_,T_,T_,T_,T_,F_,F_,F_,F_,F_,F_,F_,F_,F_,F_,F_,F_,F_,F_,F_,F_,F_,F_,F_,F_,F_] rfl rfl (any_of HT_.out (by kernel_rfl)) (fun _ _ _ h => h) (Or.inl ⟨by rfl, ?_⟩) ?_ ?_
           rotate_left
           ·
            intro w'; go_simp; with_reducible rfl
           rotate_left
           ·
            exact zp_
           refine pure_ (i := 11) (N := some 110) (v := undef) (a' := ?_) #[T_,T_,T_,T_,T_,T_,T_,T_,T_,T_,T_,T_,F_,F_,F_,F_,F_,F_,F_,F_,F_,F_,F_,F_,F_,F_,F_,F_,F_,F_,F_,F_] rfl rfl (any_of HT_.out (by kernel_rfl)) (fun _ _ _ h => h) (Or.inr ⟨by rfl, rfl⟩) ?_ ?_
           rotate_left
           ·
            exact zp_
           refine pure_ (i := 12) (N := some 111) (v := undef) (a' := ?_) #[T_,T_,T_,T_,T_,T_,T_,T_,T_,T_,T_,T_,T_,F_,F_,F_,F_,F_,F_,F_,F_,F_,F_,F_,F_,F_,F_,F_,F_,F_,F_,F_] rfl rfl (any_of HT_.out (by kernel_rfl)) (fun _ _ _ h => h) (Or.inr ⟨by rfl, rfl⟩) ?_ ?_
           rotate_left
           ·
            exact zp_
           refine pure_ (i := 13) (N := some 112) (v := undef) (a' := ?_) #[T_,T_,T_,T_,T_,T_,T_,T_,T_,T_,T_,T_,T_,T_,F_,F_,F_,F_,F_,F_,F_,F_,F_,F_,F_,F_,F_,F_,F_,F_,F_,F_] rfl rfl (any_of HT_.out (by kernel_rfl)) (fun _ _ _ h => h) (Or.inr ⟨by rfl, rfl⟩) ?_ ?_
           rotate_left
           ·
            exact zp_
           refine pure_ (i := 14) (N := some 113) (v := undef) (a' := ?_) #[T_,T_,T_,T_,T_,T_,T_,T_,T_,T_,T_,T_,T_,T_,T_,F_,F_,F_,F_,F_,F_,F_,F_,F_,F_,F_,F_,F_,F_,F_,F_,F_] rfl rfl (any_of HT_.out (by kernel_rfl)) (fun _ _ _ h => h) (Or.inr ⟨by rfl, rfl⟩) ?_ ?_
           rotate_left
           ·
            exact zp_
           refine pure_ (i := 15) (N := some 114) (v := undef) (a' := ?_) #[T_,T_,T_,T_,T_,T_,T_,T_,T_,T_,T_,T_,T_,T_,T_,T_,F_,F_,F_,F_,F_,F_,F_,F_,F_,F_,F_,F_,F_,F_,F_,F_] rfl rfl (any_of HT_.out (by kernel_rfl)) (fun _ _ _ h => h) (Or.inr ⟨by rfl, rfl⟩) ?_ ?_
           rotate_left
           ·
            exact zp_
           refine pure_ (i := 16) (N := some 115) (v := undef) (a' := ?_) #[T_,T_,T_,T_,T_,T_,T_,T_,T_,T_,T_,T_,T_,T_,T_,T_,T_,F_,F_,F_,F_,F_,F_,F_,F_,F_,F_,F_,F_,F_,F_,F_] rfl rfl (any_of HT_.out (by kernel_rfl)) (fun _ _ _ h => h) (Or.inr ⟨by rfl, rfl⟩) ?_ ?_
           rotate_left
           ·
            exact zp_
           refine pure_ (i := 17) (N := some 116) (v := undef) (a' := ?_) #[T_,T_,T_,T_,T_,T_,T_,T_,T_,T_,T_,T_,T_,T_,T_,T_,T_,T_,F_,F_,F_,F_,F_,F_,F_,F_,F_,F_,F_,F_,F_,F_] rfl rfl (any_of HT_.out (by kernel_rfl)) (fun _ _ _ h => h) (Or.inr ⟨by rfl, rfl⟩) ?_ ?_
           rotate_left
           ·
            exact zp_
           refine pure_ (i := 18) (N := some 117) (v := ?_) (a' := ?_) #[T_,T_,T_,T_,T_,T_,T_,T_,T_,T_,T_,T_,T_,T_,T_,T_,T_,T_,T_,F_,F_,F_,F_,F_,F_,F_,F_,F_,F_,F_,F_,F_] rfl rfl (any_of HT_.out (by kernel_rfl)) (fun _ _ _ h => h) (Or.inl ⟨by rfl, ?_⟩) ?_ ?_
           rotate_left
           ·
            intro w'; go_simp; with_reducible rfl
           rotate_left
           ·
            exact zp_
           refine pure_ (i := 19) (N := some 118) (v := ?_) (a' := ?_) #[T_,T_,T_,T_,T_,T_,T_,T_,T_,T_,T_,T_,T_,T_,T_,T_,T_,T_,T_,T_,F_,F_,F_,F_,F_,F_,F_,F_,F_,F_,F_,F_] rfl rfl (any_of HT_.out (by kernel_rfl)) (fun _ _ _ h => h) (Or.inl ⟨by rfl, ?_⟩) ?_ ?_
           rotate_left
           ·
            intro w'; go_simp; with_reducible rfl
           rotate_left
           ·
            exact zp_
           refine pure_ (i := 20) (N := some 119) (v := ?_) (a' := ?_) #[T_,T_,T_,T_,T_,T_,T_,T_,T_,T_,T_,T_,T_,T_,T_,T_,T_,T_,T_,T_,T_,F_,F_,F_,F_,F_,F_,F_,F_,F_,F_,F_] rfl rfl (any_of HT_.out (by kernel_rfl)) (fun _ _ _ h => h) (Or.inl ⟨by rfl, ?_⟩) ?_ ?_
           rotate_left
           ·
            intro w'; go_simp; with_reducible rfl
           rotate_left
           ·
            exact zp_
           refine pure_ (i := 21) (N := some 120) (v := ?_) (a' := ?_) #[T_,T_,T_,T_,T_,T_,T_,T_,T_,T_,T_,T_,T_,T_,T_,T_,T_,T_,T_,T_,T_,T_,F_,F_,F_,F_,F_,F_,F_,F_,F_,F_] rfl rfl (any_of HT_.out (by kernel_rfl)) (fun _ _ _ h => h) (Or.inl ⟨by rfl, ?_⟩) ?_ ?_
           rotate_left
           ·
            intro w'; go_simp; with_reducible rfl
           rotate_left
           ·
            exact zp_
           refine take_ (i := 22) (N := some 121) (v := ?_) (a' := ?_) #[T_,T_,T_,T_,T_,T_,T_,T_,T_,T_,T_,T_,T_,T_,T_,T_,T_,T_,T_,T_,T_,T_,T_,F_,F_,F_,F_,F_,F_,F_,F_,F_] rfl rfl (take_ofW HT_.out HW_.out (by kernel_rfl)) (fun _ _ _ h => h) (Or.inl ⟨by rfl, ?_⟩) hHeld ?_ ?_
           rotate_left
           ·
            rintro w' ⟨s0, s1, s2, s3, s4, s5, s6, s7, s8, s9, s10, s11, s12, s13, s14, s15, s16, s17, s18, s19, s20, s21, s22, s23⟩
            go_simp
            with_reducible rfl
           rotate_left
           ·
            exact zp_
           refine pure_ (i := 23) (N := some 122) (v := ?_) (a' := ?_) #[T_,T_,T_,T_,T_,T_,T_,T_,T_,T_,T_,T_,T_,T_,T_,T_,T_,T_,T_,T_,T_,T_,T_,T_,F_,F_,F_,F_,F_,F_,F_,F_] rfl rfl (any_of HT_.out (by kernel_rfl)) (fun _ _ _ h => h) (Or.inl ⟨by rfl, ?_⟩) ?_ ?_
           rotate_left
           ·
            intro w'; go_simp; with_reducible rfl
           rotate_left
           ·
            exact zp_
           refine take_ (i := 24) (N := some 123) (v := ?_) (a' := ?_) #[T_,T_,T_,T_,T_,T_,T_,T_,T_,T_,T_,T_,T_,T_,T_,T_,T_,T_,T_,T_,T_,T_,T_,T_,T_,F_,F_,F_,F_,F_,F_,F_] rfl rfl (take_ofW HT_.out HW_.out (by kernel_rfl)) (fun _ _ _ h => h) (Or.inl ⟨by rfl, ?_⟩) hHeld ?_ ?_
           rotate_left
           ·
            rintro w' ⟨s0, s1, s2, s3, s4, s5, s6, s7, s8, s9, s10, s11, s12, s13, s14, s15, s16, s17, s18, s19, s20, s21, s22, s23⟩
            go_simp
            with_reducible rfl
           rotate_left
           ·
            exact zp_
           refine pure_ (i := 25) (N := some 124) (v := ?_) (a' := ?_) #[T_,T_,T_,T_,T_,T_,T_,T_,T_,T_,T_,T_,T_,T_,T_,T_,T_,T_,T_,T_,T_,T_,T_,T_,T_,T_,F_,F_,F_,F_,F_,F_] rfl rfl (any_of HT_.out (by kernel_rfl)) (fun _ _ _ h => h) (Or.inl ⟨by rfl, ?_⟩) ?_ ?_
           rotate_left
           ·
            intro w'; go_simp; with_reducible rfl
           rotate_left
           ·
            exact zp_
           refine take_ (i := 26) (N := some 125) (v := ?_) (a' := ?_) #[T_,T_,T_,T_,T_,T_,T_,T_,T_,T_,T_,T_,T_,T_,T_,T_,T_,T_,T_,T_,T_,T_,T_,T_,T_,T_,T_,F_,F_,F_,F_,F_] rfl rfl (take_ofW HT_.out HW_.out (by kernel_rfl)) (fun _ _ _ h => h) (Or.inl ⟨by rfl, ?_⟩) hHeld ?_ ?_
           rotate_left
           ·
            rintro w' ⟨s0, s1, s2, s3, s4, s5, s6, s7, s8, s9, s10, s11, s12, s13, s14, s15, s16, s17, s18, s19, s20, s21, s22, s23⟩
            go_simp
            with_reducible rfl
           rotate_left
           ·
            exact zp_
           refine take_ (i := 27) (N := some 126) (v := ?_) (a' := ?_) #[T_,T_,T_,T_,T_,T_,T_,T_,T_,T_,T_,T_,T_,T_,T_,T_,T_,T_,T_,T_,T_,T_,T_,T_,T_,T_,T_,T_,F_,F_,F_,F_] rfl rfl (take_ofW HT_.out HW_.out (by kernel_rfl)) (fun _ _ _ h => h) (Or.inl ⟨by rfl, ?_⟩) hHeld ?_ ?_
           rotate_left
           ·
            rintro w' ⟨s0, s1, s2, s3, s4, s5, s6, s7, s8, s9, s10, s11, s12, s13, s14, s15, s16, s17, s18, s19, s20, s21, s22, s23⟩
            go_simp
            with_reducible rfl
           rotate_left
           ·
            exact zp_
           refine one_ (i := 28) (N := some 127) #[T_,T_,T_,T_,T_,T_,T_,T_,T_,T_,T_,T_,T_,T_,T_,T_,T_,T_,T_,T_,T_,T_,T_,T_,T_,T_,T_,T_,T_,F_,F_,F_] rfl rfl (one_of HT_.out (by kernel_rfl)) (by decide) (fun K hK => ?_)
           refine goes_ Try.func48 (by kernel_rfl) rfl #[.agg #[.slice A2_0 l2_0.length c2_0, .slice A2_1 l2_1.length c2_1, .int .i64 a2_2, .int .u64 a2_3, .int .i64 a2_4], .agg #[.slice A3_0 l3_0.length c3_0, .slice A3_1 l3_1.length c3_1, .int .i64 a3_2, .int .u64 a3_3, .int .i64 a3_4]] (by rfl) rfl rfl za_ ?_
           with_reducible refine (folkmootref15_Alike.calls kj4 _ _ l2_0 _ _ l2_1 a2_2 a2_3 a2_4 _ _ l3_0 _ _ l3_1 a3_2 a3_3 a3_4 t289 _ ?side1 ?side2 ?side3 ?side4 ?side5 ?side6 ?side7 ?side8 A164.out).mono ?_
           (case side1 => exact zc_ HR2_0 HB)
           (case side2 => exact HC2_0.out)
           (case side3 => exact zc_ HR2_1 HB)
           (case side4 => exact HC2_1.out)
           (case side5 => exact zc_ HR3_0 HB)
           (case side6 => exact HC3_0.out)
           (case side7 => exact zc_ HR3_1 HB)
           (case side8 => exact HC3_1.out)
           rintro e w186 ⟨rfl, hb⟩
           refine ⟨_, rfl, ?_⟩
           have n0_ := Aside0.mk (Kd.R_below (zr_ HO274) hb)
           have n1_ := Aside0.mk (Kd.R_below (zr_ HO278) hb)
           have n2_ := Aside0.mk (Kd.R_below (zr_ HO282) hb)
           have n3_ := Aside0.mk (Kd.R_below (zr_ HO286) hb)
           have n4_ := zk_ BK262 hb
           have n5_ := zk_ BK263 hb
           have n6_ := zk_ BK264 hb
           have n7_ := zk_ BK265 hb
           have n8_ := Aside0.mk (below_step zb_ hb)
           clear HO274
           clear HO278
           clear HO282
           clear HO286
           clear BK262
           clear BK263
           clear BK264
           clear BK265
           clear HB
           have HO274 := n0_
           have HO278 := n1_
           have HO282 := n2_
           have HO286 := n3_
           have BK262 := n4_
           have BK263 := n5_
           have BK264 := n6_
           have BK265 := n7_
           have HB := n8_
           clear n0_ n1_ n2_ n3_ n4_ n5_ n6_ n7_ n8_
           (try clear hb)
           (try clear hb2)
           (try clear hk)
           (try clear hi)
           refine hK.out _ _ ⟨(blk_cell BK262.out 0).trans rfl, (blk_cell BK262.out 1).trans rfl, (blk_cell BK262.out 2).trans rfl, (blk_cell BK262.out 3).trans rfl, (blk_cell BK262.out 4).trans rfl, (blk_cell BK263.out 0).trans rfl, (blk_cell BK263.out 1).trans rfl, (blk_cell BK263.out 2).trans rfl, (blk_cell BK263.out 3).trans rfl, (blk_cell BK263.out 4).trans rfl, (blk_cell BK264.out 0).trans rfl, (blk_cell BK264.out 1).trans rfl, (blk_cell BK264.out 2).trans rfl, (blk_cell BK264.out 3).trans rfl, (blk_cell BK264.out 4).trans rfl, (blk_cell BK265.out 0).trans rfl, (blk_cell BK265.out 1).trans rfl, (blk_cell BK265.out 2).trans rfl, (blk_cell BK265.out 3).trans rfl, (blk_cell BK265.out 4).trans rfl, own_string (P := Try.prog) Try.underlying30 Try.underlying5 Try.underlying9 (Kd.own_of_R HO274.out), own_string (P := Try.prog) Try.underlying30 Try.underlying5 Try.underlying9 (Kd.own_of_R HO278.out), own_string (P := Try.prog) Try.underlying30 Try.underlying5 Try.underlying9 (Kd.own_of_R HO282.out), own_string (P := Try.prog) Try.underlying30 Try.underlying5 Try.underlying9 (Kd.own_of_R HO286.out)⟩ (fun hHeld => ?_)
           clear hK K
           refine norm_ (a' := ?_) ?_ ?_
           rotate_left
           ·
            show Act.put _ (some 127) _ = _
            simp only [Act.put, List.setIfInBounds_toArray, List.set_cons_zero, List.set_cons_succ, i64_w, i32_w]
            rfl
           refine pure_ (i := 29) (N := some 128) (v := ?_) (a' := ?_) #[T_,T_,T_,T_,T_,T_,T_,T_,T_,T_,T_,T_,T_,T_,T_,T_,T_,T_,T_,T_,T_,T_,T_,T_,T_,T_,T_,T_,T_,T_,F_,F_] rfl rfl (any_of HT_.out (by kernel_rfl)) (fun _ _ _ h => h) (Or.inl ⟨by rfl, ?_⟩) ?_ ?_
           rotate_left
           ·
            intro w'; go_simp; with_reducible rfl
           rotate_left
           ·
            exact zp_
           refine pure_ (i := 30) (N := some 129) (v := ?_) (a' := ?_) #[T_,T_,T_,T_,T_,T_,T_,T_,T_,T_,T_,T_,T_,T_,T_,T_,T_,T_,T_,T_,T_,T_,T_,T_,T_,T_,T_,T_,T_,T_,T_,F_] rfl rfl (any_of HT_.out (by kernel_rfl)) (fun _ _ _ h => h) (Or.inl ⟨by rfl, ?_⟩) ?_ ?_
           rotate_left
           ·
            intro w'; go_simp; with_reducible rfl
           rotate_left
           ·
            exact zp_
           refine pure_ (i := 31) (N := some 8) (v := ?_) (a' := ?_) #[T_,T_,T_,T_,T_,T_,T_,T_,T_,T_,T_,T_,T_,T_,T_,T_,T_,T_,T_,T_,T_,T_,T_,T_,T_,T_,T_,T_,T_,T_,T_,T_] rfl rfl (any_of HT_.out (by kernel_rfl)) (fun _ _ _ h => h) (Or.inl ⟨by rfl, ?_⟩) ?_ ?_
           rotate_left
           ·
            intro w'; go_simp; with_reducible rfl
           rotate_left
           ·
            exact zp_
           refine done_ (done_of HT_.out (by kernel_rfl)) ?_
           (try clear hHeld); (try clear HS0_)
           try go_wp2
           go_ret
           exact ⟨by first | rfl | (simp [errW_none, errW_some] <;> rfl) | (simp [*, errW_none, errW_some] <;> rfl), by repeat (first | (with_reducible first | exact HB.out | apply below_alloc | apply pw_below_drewN | apply below_drew1 | refine below_set ?_ GE262.out | refine below_set ?_ GE263.out | refine below_set ?_ GE264.out | refine below_set ?_ GE265.out) | exact HB.out)⟩
          ·
           rw [if_neg c163] at H
           have c163b0 : (((strOfNums t272).toList == (strOfNums t276).toList) == false) = false := by simpa using c163
           (try (have c163b1 : decide (((strOfNums t272).toList == (strOfNums t276).toList) = false) = false := by simpa using c163))
           (try (have c163b2 : (((strOfNums t272).toList == (strOfNums t276).toList) == false) = false := by simpa using c163))
           (try (have c163b3 : ¬ (((strOfNums t272).toList == (strOfNums t276).toList) = false) := by simpa using c163))
           clear c163
           obtain rfl := Option.some.inj H
           have hnb188 := NB262_263.out
           have hnc188 := NB263_262.out
           have hnb189 := NB262_264.out
           have hnc189 := NB264_262.out
           have hnb190 := NB262_265.out
           have hnc190 := NB265_262.out
           have hcz191_0 : wc.cell? ⟨gb262, 0, none⟩ = some (.int .u64 a0_0) := (blk_cell BK262.out 0).trans rfl
           have hcz191_1 : wc.cell? ⟨gb262, 1, none⟩ = some (.int .i64 a0_1) := (blk_cell BK262.out 1).trans rfl
           have hcz191_2 : wc.cell? ⟨gb262, 2, none⟩ = some (.int .u64 a0_2) := (blk_cell BK262.out 2).trans rfl
           have hcz191_3 : wc.cell? ⟨gb262, 3, none⟩ = some (.int .i64 a0_3) := (blk_cell BK262.out 3).trans rfl
           have hcz191_4 : wc.cell? ⟨gb262, 4, none⟩ = some (.slice A0_4 l0_4.length c0_4) := (blk_cell BK262.out 4).trans rfl
           have hfz191_0 := blk_frozen BK262.out 0
           have hfz191_1 := blk_frozen BK262.out 1
           have hfz191_2 := blk_frozen BK262.out 2
           have hfz191_3 := blk_frozen BK262.out 3
           have hfz191_4 := blk_frozen BK262.out 4
           try go_wp2_with (first | ((with_reducible refine gate_callee (f := 46) rfl ?_); refine goesL_ (some 60) rfl rfl Try.func46 (by kernel_rfl) rfl #[.agg #[.int .u64 a0_0, .int .i64 a0_1, .int .u64 a0_2, .int .i64 a0_3, .slice A0_4 l0_4.length c0_4]] rfl za_ ?_; (with_reducible refine (content_EncodeOne.calls kj4 a0_0 a0_1 a0_2 a0_3 _ _ l0_4 t272 t275 _ ?side1 ?side2 A88.out).mono ?_); (case side1 => exact zc_ HR0_4 HB); (case side2 => exact HC0_4.out); rintro e w192 ⟨v273, rfl, ho0, hb⟩; refine ⟨_, rfl, ?_⟩; have n0_ := Aside0.mk (Kd.R_lower ho0 (below_size zb_)); have n1_ := zk_ BK262 hb; have n2_ := zk_ BK263 hb; have n3_ := zk_ BK264 hb; have n4_ := zk_ BK265 hb; have n5_ := Aside0.mk (below_step zb_ hb); clear BK262; clear BK263; clear BK264; clear BK265; clear HB; have HO274 := n0_; have BK262 := n1_; have BK263 := n2_; have BK264 := n3_; have BK265 := n4_; have HB := n5_; clear n0_ n1_ n2_ n3_ n4_ n5_; (try clear hb); (try clear hb2); (try clear hk); (try clear hi); (try clear ho0); have hnb193 := NB263_264.out; have hnc193 := NB264_263.out; have hnb194 := NB263_265.out; have hnc194 := NB265_263.out; have hcz195_0 : w192.cell? ⟨gb263, 0, none⟩ = some (.int .u64 a1_0) := (blk_cell BK263.out 0).trans rfl; have hcz195_1 : w192.cell? ⟨gb263, 1, none⟩ = some (.int .i64 a1_1) := (blk_cell BK263.out 1).trans rfl; have hcz195_2 : w192.cell? ⟨gb263, 2, none⟩ = some (.int .u64 a1_2) := (blk_cell BK263.out 2).trans rfl; have hcz195_3 : w192.cell? ⟨gb263, 3, none⟩ = some (.int .i64 a1_3) := (blk_cell BK263.out 3).trans rfl; have hcz195_4 : w192.cell? ⟨gb263, 4, none⟩ = some (.slice A1_4 l1_4.length c1_4) := (blk_cell BK263.out 4).trans rfl; have hfz195_0 := blk_frozen BK263.out 0; have hfz195_1 := blk_frozen BK263.out 1; have hfz195_2 := blk_frozen BK263.out 2; have hfz195_3 := blk_frozen BK263.out 3; have hfz195_4 := blk_frozen BK263.out 4) | ((with_reducible refine gate_callee (f := 46) rfl ?_); refine goesL_ (some 65) rfl rfl Try.func46 (by kernel_rfl) rfl #[.agg #[.int .u64 a1_0, .int .i64 a1_1, .int .u64 a1_2, .int .i64 a1_3, .slice A1_4 l1_4.length c1_4]] rfl za_ ?_; (with_reducible refine (content_EncodeOne.calls kj4 a1_0 a1_1 a1_2 a1_3 _ _ l1_4 t276 t279 _ ?side1 ?side2 A89.out).mono ?_); (case side1 => exact zc_ HR1_4 HB); (case side2 => exact HC1_4.out); rintro e w196 ⟨v277, rfl, ho0, hb⟩; refine ⟨_, rfl, ?_⟩; have n0_ := Aside0.mk (Kd.R_elder' (zr_ HO274) (Kd.R_base ho0) hb); have n1_ := Aside0.mk (Kd.R_lower (Kd.R_new' ho0 (Kd.R_lt (zr_ HO274))) (below_size zb_)); have n2_ := zk_ BK262 hb; have n3_ := zk_ BK263 hb; have n4_ := zk_ BK264 hb; have n5_ := zk_ BK265 hb; have n6_ := Aside0.mk (below_step zb_ hb); clear HO274; clear BK262; clear BK263; clear BK264; clear BK265; clear HB; have HO274 := n0_; have HO278 := n1_; have BK262 := n2_; have BK263 := n3_; have BK264 := n4_; have BK265 := n5_; have HB := n6_; clear n0_ n1_ n2_ n3_ n4_ n5_ n6_; (try clear hb); (try clear hb2); (try clear hk); (try clear hi); (try clear ho0); have hnb197 := NB264_265.out; have hnc197 := NB265_264.out; have hcz198_0 : w196.cell? ⟨gb264, 0, none⟩ = some (.slice A2_0 l2_0.length c2_0) := (blk_cell BK264.out 0).trans rfl; have hcz198_1 : w196.cell? ⟨gb264, 1, none⟩ = some (.slice A2_1 l2_1.length c2_1) := (blk_cell BK264.out 1).trans rfl; have hcz198_2 : w196.cell? ⟨gb264, 2, none⟩ = some (.int .i64 a2_2) := (blk_cell BK264.out 2).trans rfl; have hcz198_3 : w196.cell? ⟨gb264, 3, none⟩ = some (.int .u64 a2_3) := (blk_cell BK264.out 3).trans rfl; have hcz198_4 : w196.cell? ⟨gb264, 4, none⟩ = some (.int .i64 a2_4) := (blk_cell BK264.out 4).trans rfl; have hfz198_0 := blk_frozen BK264.out 0; have hfz198_1 := blk_frozen BK264.out 1; have hfz198_2 := blk_frozen BK264.out 2; have hfz198_3 := blk_frozen BK264.out 3; have hfz198_4 := blk_frozen BK264.out 4) | ((with_reducible refine gate_callee (f := 47) rfl ?_); refine goesL_ (some 70) rfl rfl Try.func47 (by kernel_rfl) rfl #[.agg #[.slice A2_0 l2_0.length c2_0, .slice A2_1 l2_1.length c2_1, .int .i64 a2_2, .int .u64 a2_3, .int .i64 a2_4]] rfl za_ ?_; (with_reducible refine (content_EncodeAll.calls kj4 _ _ l2_0 _ _ l2_1 a2_2 a2_3 a2_4 t280 t283 _ ?side1 ?side2 ?side3 ?side4 A90.out).mono ?_); (case side1 => exact zc_ HR2_0 HB); (case side2 => exact HC2_0.out); (case side3 => exact zc_ HR2_1 HB); (case side4 => exact HC2_1.out); rintro e w199 ⟨v281, rfl, ho0, hb⟩; refine ⟨_, rfl, ?_⟩; have n0_ := Aside0.mk (Kd.R_elder' (zr_ HO274) (Kd.R_base ho0) hb); have n1_ := Aside0.mk (Kd.R_elder' (zr_ HO278) (Kd.R_base ho0) hb); have n2_ := Aside0.mk (Kd.R_lower (Kd.R_new' (Kd.R_new' ho0 (Kd.R_lt (zr_ HO274))) (Kd.R_lt (zr_ HO278))) (below_size zb_)); have n3_ := zk_ BK262 hb; have n4_ := zk_ BK263 hb; have n5_ := zk_ BK264 hb; have n6_ := zk_ BK265 hb; have n7_ := Aside0.mk (below_step zb_ hb); clear HO274; clear HO278; clear BK262; clear BK263; clear BK264; clear BK265; clear HB; have HO274 := n0_; have HO278 := n1_; have HO282 := n2_; have BK262 := n3_; have BK263 := n4_; have BK264 := n5_; have BK265 := n6_; have HB := n7_; clear n0_ n1_ n2_ n3_ n4_ n5_ n6_ n7_; (try clear hb); (try clear hb2); (try clear hk); (try clear hi); (try clear ho0); have hcz200_0 : w199.cell? ⟨gb265, 0, none⟩ = some (.slice A3_0 l3_0.length c3_0) := (blk_cell BK265.out 0).trans rfl; have hcz200_1 : w199.cell? ⟨gb265, 1, none⟩ = some (.slice A3_1 l3_1.length c3_1) := (blk_cell BK265.out 1).trans rfl; have hcz200_2 : w199.cell? ⟨gb265, 2, none⟩ = some (.int .i64 a3_2) := (blk_cell BK265.out 2).trans rfl; have hcz200_3 : w199.cell? ⟨gb265, 3, none⟩ = some (.int .u64 a3_3) := (blk_cell BK265.out 3).trans rfl; have hcz200_4 : w199.cell? ⟨gb265, 4, none⟩ = some (.int .i64 a3_4) := (blk_cell BK265.out 4).trans rfl; have hfz200_0 := blk_frozen BK265.out 0; have hfz200_1 := blk_frozen BK265.out 1; have hfz200_2 := blk_frozen BK265.out 2; have hfz200_3 := blk_frozen BK265.out 3; have hfz200_4 := blk_frozen BK265.out 4) | ((with_reducible refine gate_callee (f := 47) rfl ?_); refine goesL_ (some 75) rfl rfl Try.func47 (by kernel_rfl) rfl #[.agg #[.slice A3_0 l3_0.length c3_0, .slice A3_1 l3_1.length c3_1, .int .i64 a3_2, .int .u64 a3_3, .int .i64 a3_4]] rfl za_ ?_; (with_reducible refine (content_EncodeAll.calls kj4 _ _ l3_0 _ _ l3_1 a3_2 a3_3 a3_4 t284 t287 _ ?side1 ?side2 ?side3 ?side4 A91.out).mono ?_); (case side1 => exact zc_ HR3_0 HB); (case side2 => exact HC3_0.out); (case side3 => exact zc_ HR3_1 HB); (case side4 => exact HC3_1.out); rintro e w201 ⟨v285, rfl, ho0, hb⟩; refine ⟨_, rfl, ?_⟩; have n0_ := Aside0.mk (Kd.R_elder' (zr_ HO274) (Kd.R_base ho0) hb); have n1_ := Aside0.mk (Kd.R_elder' (zr_ HO278) (Kd.R_base ho0) hb); have n2_ := Aside0.mk (Kd.R_elder' (zr_ HO282) (Kd.R_base ho0) hb); have n3_ := Aside0.mk (Kd.R_lower (Kd.R_new' (Kd.R_new' (Kd.R_new' ho0 (Kd.R_lt (zr_ HO274))) (Kd.R_lt (zr_ HO278))) (Kd.R_lt (zr_ HO282))) (below_size zb_)); have n4_ := zk_ BK262 hb; have n5_ := zk_ BK263 hb; have n6_ := zk_ BK264 hb; have n7_ := zk_ BK265 hb; have n8_ := Aside0.mk (below_step zb_ hb); clear HO274; clear HO278; clear HO282; clear BK262; clear BK263; clear BK264; clear BK265; clear HB; have HO274 := n0_; have HO278 := n1_; have HO282 := n2_; have HO286 := n3_; have BK262 := n4_; have BK263 := n5_; have BK264 := n6_; have BK265 := n7_; have HB := n8_; clear n0_ n1_ n2_ n3_ n4_ n5_ n6_ n7_ n8_; (try clear hb); (try clear hb2); (try clear hk); (try clear hi); (try clear ho0); have hcv202 := own_string (P := Try.prog) Try.underlying30 Try.underlying5 Try.underlying9 (Kd.own_of_R HO274.out); have hcv203 := own_string (P := Try.prog) Try.underlying30 Try.underlying5 Try.underlying9 (Kd.own_of_R HO282.out)))
           have n0_ := Aside0.mk (Kd.R_drew HO274.out)
           have n1_ := Aside0.mk (Kd.R_drew HO278.out)
           have n2_ := Aside0.mk (Kd.R_drew HO282.out)
           have n3_ := Aside0.mk (Kd.R_drew HO286.out)
           have n4_ := Aside0.mk (blk_drew BK262.out)
           have n5_ := Aside0.mk (blk_drew BK263.out)
           have n6_ := Aside0.mk (blk_drew BK264.out)
           have n7_ := Aside0.mk (blk_drew BK265.out)
           have n8_ := Aside0.mk (below_drew1 HB.out)
           clear HO274
           clear HO278
           clear HO282
           clear HO286
           clear BK262
           clear BK263
           clear BK264
           clear BK265
           clear HB
           have HO274 := n0_
           have HO278 := n1_
           have HO282 := n2_
           have HO286 := n3_
           have BK262 := n4_
           have BK263 := n5_
           have BK264 := n6_
           have BK265 := n7_
           have HB := n8_
           clear n0_ n1_ n2_ n3_ n4_ n5_ n6_ n7_ n8_
           have hcv205 := own_string (P := Try.prog) Try.underlying30 Try.underlying5 Try.underlying9 (Kd.own_of_R HO274.out)
           have hcv205d := fun n_ : Nat => own_string (P := Try.prog) Try.underlying30 Try.underlying5 Try.underlying9 (Kd.own_of_R (Kd.R_drewN HO274.out n_))
           have hcv206 := own_string (P := Try.prog) Try.underlying30 Try.underlying5 Try.underlying9 (Kd.own_of_R HO278.out)
           have hcv206d := fun n_ : Nat => own_string (P := Try.prog) Try.underlying30 Try.underlying5 Try.underlying9 (Kd.own_of_R (Kd.R_drewN HO278.out n_))
           refine start_ (n := 32) (S := fun w' => w'.cell? ⟨gb262, 0, none⟩ = some (.int .u64 a0_0) ∧ w'.cell? ⟨gb262, 1, none⟩ = some (.int .i64 a0_1) ∧ w'.cell? ⟨gb262, 2, none⟩ = some (.int .u64 a0_2) ∧ w'.cell? ⟨gb262, 3, none⟩ = some (.int .i64 a0_3) ∧ w'.cell? ⟨gb262, 4, none⟩ = some (.slice A0_4 l0_4.length c0_4) ∧ w'.cell? ⟨gb263, 0, none⟩ = some (.int .u64 a1_0) ∧ w'.cell? ⟨gb263, 1, none⟩ = some (.int .i64 a1_1) ∧ w'.cell? ⟨gb263, 2, none⟩ = some (.int .u64 a1_2) ∧ w'.cell? ⟨gb263, 3, none⟩ = some (.int .i64 a1_3) ∧ w'.cell? ⟨gb263, 4, none⟩ = some (.slice A1_4 l1_4.length c1_4) ∧ (convert 30 9 v273).run Try.prog w' = .ok (.string (strOfNums t272)) w' ∧ (convert 30 9 v277).run Try.prog w' = .ok (.string (strOfNums t276)) w') (ds := []) #[F_,F_,F_,F_,F_,F_,F_,F_,F_,F_,F_,F_,F_,F_,F_,F_,F_,F_,F_,F_,F_,F_,F_,F_,F_,F_,F_,F_,F_,F_,F_,F_] (by kernel_rfl) rfl rfl ⟨(blk_cell BK262.out 0).trans rfl, (blk_cell BK262.out 1).trans rfl, (blk_cell BK262.out 2).trans rfl, (blk_cell BK262.out 3).trans rfl, (blk_cell BK262.out 4).trans rfl, (blk_cell BK263.out 0).trans rfl, (blk_cell BK263.out 1).trans rfl, (blk_cell BK263.out 2).trans rfl, (blk_cell BK263.out 3).trans rfl, (blk_cell BK263.out 4).trans rfl, hcv205, hcv206⟩ (fun hHeld => ?_); refine with_tabW folkmootlaw15_ContentApart.tab9 folkmootlaw15_ContentApart.bits9 (fun HT_ HW_ => ?_)
           generalize w201.drew = w204 at HO274 HO278 HO282 HO286 BK262 BK263 BK264 BK265 HB hHeld ⊢
           refine pure_ (i := 0) (N := some 99) (v := ?_) (a' := ?_) #[T_,F_,F_,F_,F_,F_,F_,F_,F_,F_,F_,F_,F_,F_,F_,F_,F_,F_,F_,F_,F_,F_,F_,F_,F_,F_,F_,F_,F_,F_,F_,F_] rfl rfl (any_of HT_.out (by kernel_rfl)) (fun _ _ _ h => h) (Or.inl ⟨by rfl, ?_⟩) ?_ ?_
           rotate_left
           ·
            intro w'; go_simp; with_reducible rfl
           rotate_left
           ·
            exact zp_
           refine take_ (i := 1) (N := some 100) (v := ?_) (a' := ?_) #[T_,T_,F_,F_,F_,F_,F_,F_,F_,F_,F_,F_,F_,F_,F_,F_,F_,F_,F_,F_,F_,F_,F_,F_,F_,F_,F_,F_,F_,F_,F_,F_] rfl rfl (take_ofW HT_.out HW_.out (by kernel_rfl)) (fun _ _ _ h => h) (Or.inl ⟨by rfl, ?_⟩) hHeld ?_ ?_
           rotate_left
           ·
            rintro w' ⟨s0, s1, s2, s3, s4, s5, s6, s7, s8, s9, s10, s11⟩
            go_simp
            with_reducible rfl
           rotate_left
           ·
            exact zp_
           refine pure_ (i := 2) (N := some 101) (v := ?_) (a' := ?_) #[T_,T_,T_,F_,F_,F_,F_,F_,F_,F_,F_,F_,F_,F_,F_,F_,F_,F_,F_,F_,F_,F_,F_,F_,F_,F_,F_,F_,F_,F_,F_,F_] rfl rfl (any_of HT_.out (by kernel_rfl)) (fun _ _ _ h => h) (Or.inl ⟨by rfl, ?_⟩) ?_ ?_
           rotate_left
           ·
            intro w'; go_simp; with_reducible rfl
           rotate_left
           ·
            exact zp_
           refine take_ (i := 3) (N := some 102) (v := ?_) (a' := ?_) #[T_,T_,T_,T_,F_,F_,F_,F_,F_,F_,F_,F_,F_,F_,F_,F_,F_,F_,F_,F_,F_,F_,F_,F_,F_,F_,F_,F_,F_,F_,F_,F_] rfl rfl (take_ofW HT_.out HW_.out (by kernel_rfl)) (fun _ _ _ h => h) (Or.inl ⟨by rfl, ?_⟩) hHeld ?_ ?_
           rotate_left
           ·
            rintro w' ⟨s0, s1, s2, s3, s4, s5, s6, s7, s8, s9, s10, s11⟩
            go_simp
            with_reducible rfl
           rotate_left
           ·
            exact zp_
           refine pure_ (i := 4) (N := some 103) (v := ?_) (a' := ?_) #[T_,T_,T_,T_,T_,F_,F_,F_,F_,F_,F_,F_,F_,F_,F_,F_,F_,F_,F_,F_,F_,F_,F_,F_,F_,F_,F_,F_,F_,F_,F_,F_] rfl rfl (any_of HT_.out (by kernel_rfl)) (fun _ _ _ h => h) (Or.inl ⟨by rfl, ?_⟩) ?_ ?_
           rotate_left
           ·
            intro w'; go_simp; with_reducible rfl
           rotate_left
           ·
            exact zp_
           refine pure_ (i := 5) (N := some 104) (v := ?_) (a' := ?_) #[T_,T_,T_,T_,T_,T_,F_,F_,F_,F_,F_,F_,F_,F_,F_,F_,F_,F_,F_,F_,F_,F_,F_,F_,F_,F_,F_,F_,F_,F_,F_,F_] rfl rfl (any_of HT_.out (by kernel_rfl)) (fun _ _ _ h => h) (Or.inl ⟨by rfl, ?_⟩) ?_ ?_
           rotate_left
           ·
            intro w'; go_simp; with_reducible rfl
           rotate_left
           ·
            exact zp_
           refine pure_ (i := 7) (N := some 106) (v := ?_) (a' := ?_) #[T_,T_,T_,T_,T_,T_,F_,T_,F_,F_,F_,F_,F_,F_,F_,F_,F_,F_,F_,F_,F_,F_,F_,F_,F_,F_,F_,F_,F_,F_,F_,F_] rfl rfl (any_of HT_.out (by kernel_rfl)) (fun _ _ _ h => h) (Or.inl ⟨by rfl, ?_⟩) ?_ ?_
           rotate_left
           ·
            intro w'; go_simp; with_reducible rfl
           rotate_left
           ·
            exact zp_
           refine take_ (i := 6) (N := some 105) (v := ?_) (a' := ?_) #[T_,T_,T_,T_,T_,T_,T_,T_,F_,F_,F_,F_,F_,F_,F_,F_,F_,F_,F_,F_,F_,F_,F_,F_,F_,F_,F_,F_,F_,F_,F_,F_] rfl rfl (take_ofW HT_.out HW_.out (by kernel_rfl)) (fun _ _ _ h => h) (Or.inl ⟨by rfl, ?_⟩) hHeld ?_ ?_
           rotate_left
           ·
            rintro w' ⟨s0, s1, s2, s3, s4, s5, s6, s7, s8, s9, s10, s11⟩
            go_simp
            with_reducible rfl
           rotate_left
           ·
            exact zp_
           refine take_ (i := 8) (N := some 107) (v := ?_) (a' := ?_) #[T_,T_,T_,T_,T_,T_,T_,T_,T_,F_,F_,F_,F_,F_,F_,F_,F_,F_,F_,F_,F_,F_,F_,F_,F_,F_,F_,F_,F_,F_,F_,F_] rfl rfl (take_ofW HT_.out HW_.out (by kernel_rfl)) (fun _ _ _ h => h) (Or.inl ⟨by rfl, ?_⟩) hHeld ?_ ?_
           rotate_left
           ·
            rintro w' ⟨s0, s1, s2, s3, s4, s5, s6, s7, s8, s9, s10, s11⟩
            go_simp
            with_reducible rfl
           rotate_left
           ·
            exact zp_
           refine pure_ (i := 9) (N := some 108) (v := ?_) (a' := ?_) #[T_,T_,T_,T_,T_,T_,T_,T_,T_,T_,F_,F_,F_,F_,F_,F_,F_,F_,F_,F_,F_,F_,F_,F_,F_,F_,F_,F_,F_,F_,F_,F_] rfl rfl (any_of HT_.out (by kernel_rfl)) (fun _ _ _ h => h) (Or.inl ⟨by rfl, ?_⟩) ?_ ?_
           rotate_left
           ·
            intro w'; go_simp; with_reducible rfl
           rotate_left
           ·
            exact zp_
           refine pure_ (i := 10) (N := some 109) (v := ?_) (a' := ?_) #[T_,T_,T_,T_,T_,T_,T_,T_,T_,T_,T_,F_,F_,F_,F_,F_,F_,F_,F_,F_,F_,F_,F_,F_,F_,F_,F_,F_,F_,F_,F_,F_] rfl rfl (any_of HT_.out (by kernel_rfl)) (fun _ _ _ h => h) (Or.inl ⟨by rfl, ?_⟩) ?_ ?_
           rotate_left
           ·
            intro w'; go_simp; with_reducible rfl
           rotate_left
           ·
            exact zp_
           refine pure_ (i := 11) (N := some 110) (v := undef) (a' := ?_) #[T_,T_,T_,T_,T_,T_,T_,T_,T_,T_,T_,T_,F_,F_,F_,F_,F_,F_,F_,F_,F_,F_,F_,F_,F_,F_,F_,F_,F_,F_,F_,F_] rfl rfl (any_of HT_.out (by kernel_rfl)) (fun _ _ _ h => h) (Or.inr ⟨by rfl, rfl⟩) ?_ ?_
           rotate_left
           ·
            exact zp_
           refine pure_ (i := 12) (N := some 111) (v := undef) (a' := ?_) #[T_,T_,T_,T_,T_,T_,T_,T_,T_,T_,T_,T_,T_,F_,F_,F_,F_,F_,F_,F_,F_,F_,F_,F_,F_,F_,F_,F_,F_,F_,F_,F_] rfl rfl (any_of HT_.out (by kernel_rfl)) (fun _ _ _ h => h) (Or.inr ⟨by rfl, rfl⟩) ?_ ?_
           rotate_left
           ·
            exact zp_
           refine pure_ (i := 13) (N := some 112) (v := undef) (a' := ?_) #[T_,T_,T_,T_,T_,T_,T_,T_,T_,T_,T_,T_,T_,T_,F_,F_,F_,F_,F_,F_,F_,F_,F_,F_,F_,F_,F_,F_,F_,F_,F_,F_] rfl rfl (any_of HT_.out (by kernel_rfl)) (fun _ _ _ h => h) (Or.inr ⟨by rfl, rfl⟩) ?_ ?_
           rotate_left
           ·
            exact zp_
           refine pure_ (i := 14) (N := some 113) (v := undef) (a' := ?_) #[T_,T_,T_,T_,T_,T_,T_,T_,T_,T_,T_,T_,T_,T_,T_,F_,F_,F_,F_,F_,F_,F_,F_,F_,F_,F_,F_,F_,F_,F_,F_,F_] rfl rfl (any_of HT_.out (by kernel_rfl)) (fun _ _ _ h => h) (Or.inr ⟨by rfl, rfl⟩) ?_ ?_
           rotate_left
           ·
            exact zp_
           refine pure_ (i := 15) (N := some 114) (v := undef) (a' := ?_) #[T_,T_,T_,T_,T_,T_,T_,T_,T_,T_,T_,T_,T_,T_,T_,T_,F_,F_,F_,F_,F_,F_,F_,F_,F_,F_,F_,F_,F_,F_,F_,F_] rfl rfl (any_of HT_.out (by kernel_rfl)) (fun _ _ _ h => h) (Or.inr ⟨by rfl, rfl⟩) ?_ ?_
           rotate_left
           ·
            exact zp_
           refine pure_ (i := 16) (N := some 115) (v := undef) (a' := ?_) #[T_,T_,T_,T_,T_,T_,T_,T_,T_,T_,T_,T_,T_,T_,T_,T_,T_,F_,F_,F_,F_,F_,F_,F_,F_,F_,F_,F_,F_,F_,F_,F_] rfl rfl (any_of HT_.out (by kernel_rfl)) (fun _ _ _ h => h) (Or.inr ⟨by rfl, rfl⟩) ?_ ?_
           rotate_left
           ·
            exact zp_
           refine pure_ (i := 17) (N := some 116) (v := undef) (a' := ?_) #[T_,T_,T_,T_,T_,T_,T_,T_,T_,T_,T_,T_,T_,T_,T_,T_,T_,T_,F_,F_,F_,F_,F_,F_,F_,F_,F_,F_,F_,F_,F_,F_] rfl rfl (any_of HT_.out (by kernel_rfl)) (fun _ _ _ h => h) (Or.inr ⟨by rfl, rfl⟩) ?_ ?_
           rotate_left
           ·
            exact zp_
           refine pure_ (i := 18) (N := some 117) (v := ?_) (a' := ?_) #[T_,T_,T_,T_,T_,T_,T_,T_,T_,T_,T_,T_,T_,T_,T_,T_,T_,T_,T_,F_,F_,F_,F_,F_,F_,F_,F_,F_,F_,F_,F_,F_] rfl rfl (any_of HT_.out (by kernel_rfl)) (fun _ _ _ h => h) (Or.inl ⟨by rfl, ?_⟩) ?_ ?_
           rotate_left
           ·
            intro w'; go_simp; with_reducible rfl
           rotate_left
           ·
            exact zp_
           refine pure_ (i := 19) (N := some 118) (v := ?_) (a' := ?_) #[T_,T_,T_,T_,T_,T_,T_,T_,T_,T_,T_,T_,T_,T_,T_,T_,T_,T_,T_,T_,F_,F_,F_,F_,F_,F_,F_,F_,F_,F_,F_,F_] rfl rfl (any_of HT_.out (by kernel_rfl)) (fun _ _ _ h => h) (Or.inl ⟨by rfl, ?_⟩) ?_ ?_
           rotate_left
           ·
            intro w'; go_simp; with_reducible rfl
           rotate_left
           ·
            exact zp_
           refine pure_ (i := 20) (N := some 119) (v := ?_) (a' := ?_) #[T_,T_,T_,T_,T_,T_,T_,T_,T_,T_,T_,T_,T_,T_,T_,T_,T_,T_,T_,T_,T_,F_,F_,F_,F_,F_,F_,F_,F_,F_,F_,F_] rfl rfl (any_of HT_.out (by kernel_rfl)) (fun _ _ _ h => h) (Or.inl ⟨by rfl, ?_⟩) ?_ ?_
           rotate_left
           ·
            intro w'; go_simp; with_reducible rfl
           rotate_left
           ·
            exact zp_
           refine pure_ (i := 21) (N := some 120) (v := undef) (a' := ?_) #[T_,T_,T_,T_,T_,T_,T_,T_,T_,T_,T_,T_,T_,T_,T_,T_,T_,T_,T_,T_,T_,T_,F_,F_,F_,F_,F_,F_,F_,F_,F_,F_] rfl rfl (any_of HT_.out (by kernel_rfl)) (fun _ _ _ h => h) (Or.inr ⟨by rfl, rfl⟩) ?_ ?_
           rotate_left
           ·
            exact zp_
           refine pure_ (i := 22) (N := some 121) (v := undef) (a' := ?_) #[T_,T_,T_,T_,T_,T_,T_,T_,T_,T_,T_,T_,T_,T_,T_,T_,T_,T_,T_,T_,T_,T_,T_,F_,F_,F_,F_,F_,F_,F_,F_,F_] rfl rfl (any_of HT_.out (by kernel_rfl)) (fun _ _ _ h => h) (Or.inr ⟨by rfl, rfl⟩) ?_ ?_
           rotate_left
           ·
            exact zp_
           refine pure_ (i := 23) (N := some 122) (v := undef) (a' := ?_) #[T_,T_,T_,T_,T_,T_,T_,T_,T_,T_,T_,T_,T_,T_,T_,T_,T_,T_,T_,T_,T_,T_,T_,T_,F_,F_,F_,F_,F_,F_,F_,F_] rfl rfl (any_of HT_.out (by kernel_rfl)) (fun _ _ _ h => h) (Or.inr ⟨by rfl, rfl⟩) ?_ ?_
           rotate_left
           ·
            exact zp_
           refine pure_ (i := 24) (N := some 123) (v := undef) (a' := ?_) #[T_,T_,T_,T_,T_,T_,T_,T_,T_,T_,T_,T_,T_,T_,T_,T_,T_,T_,T_,T_,T_,T_,T_,T_,T_,F_,F_,F_,F_,F_,F_,F_] rfl rfl (any_of HT_.out (by kernel_rfl)) (fun _ _ _ h => h) (Or.inr ⟨by rfl, rfl⟩) ?_ ?_
           rotate_left
           ·
            exact zp_
           refine pure_ (i := 25) (N := some 124) (v := undef) (a' := ?_) #[T_,T_,T_,T_,T_,T_,T_,T_,T_,T_,T_,T_,T_,T_,T_,T_,T_,T_,T_,T_,T_,T_,T_,T_,T_,T_,F_,F_,F_,F_,F_,F_] rfl rfl (any_of HT_.out (by kernel_rfl)) (fun _ _ _ h => h) (Or.inr ⟨by rfl, rfl⟩) ?_ ?_
           rotate_left
           ·
            exact zp_
           refine pure_ (i := 26) (N := some 125) (v := undef) (a' := ?_) #[T_,T_,T_,T_,T_,T_,T_,T_,T_,T_,T_,T_,T_,T_,T_,T_,T_,T_,T_,T_,T_,T_,T_,T_,T_,T_,T_,F_,F_,F_,F_,F_] rfl rfl (any_of HT_.out (by kernel_rfl)) (fun _ _ _ h => h) (Or.inr ⟨by rfl, rfl⟩) ?_ ?_
           rotate_left
           ·
            exact zp_
           refine pure_ (i := 27) (N := some 126) (v := undef) (a' := ?_) #[T_,T_,T_,T_,T_,T_,T_,T_,T_,T_,T_,T_,T_,T_,T_,T_,T_,T_,T_,T_,T_,T_,T_,T_,T_,T_,T_,T_,F_,F_,F_,F_] rfl rfl (any_of HT_.out (by kernel_rfl)) (fun _ _ _ h => h) (Or.inr ⟨by rfl, rfl⟩) ?_ ?_
           rotate_left
           ·
            exact zp_
           refine pure_ (i := 28) (N := some 127) (v := undef) (a' := ?_) #[T_,T_,T_,T_,T_,T_,T_,T_,T_,T_,T_,T_,T_,T_,T_,T_,T_,T_,T_,T_,T_,T_,T_,T_,T_,T_,T_,T_,T_,F_,F_,F_] rfl rfl (any_of HT_.out (by kernel_rfl)) (fun _ _ _ h => h) (Or.inr ⟨by rfl, rfl⟩) ?_ ?_
           rotate_left
           ·
            exact zp_
           refine pure_ (i := 29) (N := some 128) (v := undef) (a' := ?_) #[T_,T_,T_,T_,T_,T_,T_,T_,T_,T_,T_,T_,T_,T_,T_,T_,T_,T_,T_,T_,T_,T_,T_,T_,T_,T_,T_,T_,T_,T_,F_,F_] rfl rfl (any_of HT_.out (by kernel_rfl)) (fun _ _ _ h => h) (Or.inr ⟨by rfl, rfl⟩) ?_ ?_
           rotate_left
           ·
            exact zp_
           refine pure_ (i := 30) (N := some 129) (v := ?_) (a' := ?_) #[T_,T_,T_,T_,T_,T_,T_,T_,T_,T_,T_,T_,T_,T_,T_,T_,T_,T_,T_,T_,T_,T_,T_,T_,T_,T_,T_,T_,T_,T_,T_,F_] rfl rfl (any_of HT_.out (by kernel_rfl)) (fun _ _ _ h => h) (Or.inl ⟨by rfl, ?_⟩) ?_ ?_
           rotate_left
           ·
            intro w'; go_simp; with_reducible rfl
           rotate_left
           ·
            exact zp_
           refine pure_ (i := 31) (N := some 8) (v := ?_) (a' := ?_) #[T_,T_,T_,T_,T_,T_,T_,T_,T_,T_,T_,T_,T_,T_,T_,T_,T_,T_,T_,T_,T_,T_,T_,T_,T_,T_,T_,T_,T_,T_,T_,T_] rfl rfl (any_of HT_.out (by kernel_rfl)) (fun _ _ _ h => h) (Or.inl ⟨by rfl, ?_⟩) ?_ ?_
           rotate_left
           ·
            intro w'; go_simp; with_reducible rfl
           rotate_left
           ·
            exact zp_
           refine done_ (done_of HT_.out (by kernel_rfl)) ?_
           (try clear hHeld); (try clear HS0_)
           try go_wp2
           go_ret
           exact ⟨by first | rfl | (simp [errW_none, errW_some] <;> rfl) | (simp [*, errW_none, errW_some] <;> rfl), by repeat (first | (with_reducible first | exact HB.out | apply below_alloc | apply pw_below_drewN | apply below_drew1 | refine below_set ?_ GE262.out | refine below_set ?_ GE263.out | refine below_set ?_ GE264.out | refine below_set ?_ GE265.out) | exact HB.out)⟩
       ·
        rw [if_neg c95] at H
        have c95b0 : (t287 == 0) = false := beq_eq_false_iff_ne.mpr c95
        have c95b1 : (t287 != 0) = true := bne_iff_ne.mpr c95
        obtain rfl := Option.some.inj H
        have hnb208 := NB262_263.out
        have hnc208 := NB263_262.out
        have hnb209 := NB262_264.out
        have hnc209 := NB264_262.out
        have hnb210 := NB262_265.out
        have hnc210 := NB265_262.out
        have hcz211_0 : wc.cell? ⟨gb262, 0, none⟩ = some (.int .u64 a0_0) := (blk_cell BK262.out 0).trans rfl
        have hcz211_1 : wc.cell? ⟨gb262, 1, none⟩ = some (.int .i64 a0_1) := (blk_cell BK262.out 1).trans rfl
        have hcz211_2 : wc.cell? ⟨gb262, 2, none⟩ = some (.int .u64 a0_2) := (blk_cell BK262.out 2).trans rfl
        have hcz211_3 : wc.cell? ⟨gb262, 3, none⟩ = some (.int .i64 a0_3) := (blk_cell BK262.out 3).trans rfl
        have hcz211_4 : wc.cell? ⟨gb262, 4, none⟩ = some (.slice A0_4 l0_4.length c0_4) := (blk_cell BK262.out 4).trans rfl
        have hfz211_0 := blk_frozen BK262.out 0
        have hfz211_1 := blk_frozen BK262.out 1
        have hfz211_2 := blk_frozen BK262.out 2
        have hfz211_3 := blk_frozen BK262.out 3
        have hfz211_4 := blk_frozen BK262.out 4
        go_wp2_with (first | ((with_reducible refine gate_callee (f := 46) rfl ?_); refine goesL_ (some 60) rfl rfl Try.func46 (by kernel_rfl) rfl #[.agg #[.int .u64 a0_0, .int .i64 a0_1, .int .u64 a0_2, .int .i64 a0_3, .slice A0_4 l0_4.length c0_4]] rfl za_ ?_; (with_reducible refine (content_EncodeOne.calls kj4 a0_0 a0_1 a0_2 a0_3 _ _ l0_4 t272 t275 _ ?side1 ?side2 A88.out).mono ?_); (case side1 => exact zc_ HR0_4 HB); (case side2 => exact HC0_4.out); rintro e w212 ⟨v273, rfl, ho0, hb⟩; refine ⟨_, rfl, ?_⟩; have n0_ := Aside0.mk (Kd.R_lower ho0 (below_size zb_)); have n1_ := zk_ BK262 hb; have n2_ := zk_ BK263 hb; have n3_ := zk_ BK264 hb; have n4_ := zk_ BK265 hb; have n5_ := Aside0.mk (below_step zb_ hb); clear BK262; clear BK263; clear BK264; clear BK265; clear HB; have HO274 := n0_; have BK262 := n1_; have BK263 := n2_; have BK264 := n3_; have BK265 := n4_; have HB := n5_; clear n0_ n1_ n2_ n3_ n4_ n5_; (try clear hb); (try clear hb2); (try clear hk); (try clear hi); (try clear ho0); have hnb213 := NB263_264.out; have hnc213 := NB264_263.out; have hnb214 := NB263_265.out; have hnc214 := NB265_263.out; have hcz215_0 : w212.cell? ⟨gb263, 0, none⟩ = some (.int .u64 a1_0) := (blk_cell BK263.out 0).trans rfl; have hcz215_1 : w212.cell? ⟨gb263, 1, none⟩ = some (.int .i64 a1_1) := (blk_cell BK263.out 1).trans rfl; have hcz215_2 : w212.cell? ⟨gb263, 2, none⟩ = some (.int .u64 a1_2) := (blk_cell BK263.out 2).trans rfl; have hcz215_3 : w212.cell? ⟨gb263, 3, none⟩ = some (.int .i64 a1_3) := (blk_cell BK263.out 3).trans rfl; have hcz215_4 : w212.cell? ⟨gb263, 4, none⟩ = some (.slice A1_4 l1_4.length c1_4) := (blk_cell BK263.out 4).trans rfl; have hfz215_0 := blk_frozen BK263.out 0; have hfz215_1 := blk_frozen BK263.out 1; have hfz215_2 := blk_frozen BK263.out 2; have hfz215_3 := blk_frozen BK263.out 3; have hfz215_4 := blk_frozen BK263.out 4) | ((with_reducible refine gate_callee (f := 46) rfl ?_); refine goesL_ (some 65) rfl rfl Try.func46 (by kernel_rfl) rfl #[.agg #[.int .u64 a1_0, .int .i64 a1_1, .int .u64 a1_2, .int .i64 a1_3, .slice A1_4 l1_4.length c1_4]] rfl za_ ?_; (with_reducible refine (content_EncodeOne.calls kj4 a1_0 a1_1 a1_2 a1_3 _ _ l1_4 t276 t279 _ ?side1 ?side2 A89.out).mono ?_); (case side1 => exact zc_ HR1_4 HB); (case side2 => exact HC1_4.out); rintro e w216 ⟨v277, rfl, ho0, hb⟩; refine ⟨_, rfl, ?_⟩; have n0_ := Aside0.mk (Kd.R_elder' (zr_ HO274) (Kd.R_base ho0) hb); have n1_ := Aside0.mk (Kd.R_lower (Kd.R_new' ho0 (Kd.R_lt (zr_ HO274))) (below_size zb_)); have n2_ := zk_ BK262 hb; have n3_ := zk_ BK263 hb; have n4_ := zk_ BK264 hb; have n5_ := zk_ BK265 hb; have n6_ := Aside0.mk (below_step zb_ hb); clear HO274; clear BK262; clear BK263; clear BK264; clear BK265; clear HB; have HO274 := n0_; have HO278 := n1_; have BK262 := n2_; have BK263 := n3_; have BK264 := n4_; have BK265 := n5_; have HB := n6_; clear n0_ n1_ n2_ n3_ n4_ n5_ n6_; (try clear hb); (try clear hb2); (try clear hk); (try clear hi); (try clear ho0); have hnb217 := NB264_265.out; have hnc217 := NB265_264.out; have hcz218_0 : w216.cell? ⟨gb264, 0, none⟩ = some (.slice A2_0 l2_0.length c2_0) := (blk_cell BK264.out 0).trans rfl; have hcz218_1 : w216.cell? ⟨gb264, 1, none⟩ = some (.slice A2_1 l2_1.length c2_1) := (blk_cell BK264.out 1).trans rfl; have hcz218_2 : w216.cell? ⟨gb264, 2, none⟩ = some (.int .i64 a2_2) := (blk_cell BK264.out 2).trans rfl; have hcz218_3 : w216.cell? ⟨gb264, 3, none⟩ = some (.int .u64 a2_3) := (blk_cell BK264.out 3).trans rfl; have hcz218_4 : w216.cell? ⟨gb264, 4, none⟩ = some (.int .i64 a2_4) := (blk_cell BK264.out 4).trans rfl; have hfz218_0 := blk_frozen BK264.out 0; have hfz218_1 := blk_frozen BK264.out 1; have hfz218_2 := blk_frozen BK264.out 2; have hfz218_3 := blk_frozen BK264.out 3; have hfz218_4 := blk_frozen BK264.out 4) | ((with_reducible refine gate_callee (f := 47) rfl ?_); refine goesL_ (some 70) rfl rfl Try.func47 (by kernel_rfl) rfl #[.agg #[.slice A2_0 l2_0.length c2_0, .slice A2_1 l2_1.length c2_1, .int .i64 a2_2, .int .u64 a2_3, .int .i64 a2_4]] rfl za_ ?_; (with_reducible refine (content_EncodeAll.calls kj4 _ _ l2_0 _ _ l2_1 a2_2 a2_3 a2_4 t280 t283 _ ?side1 ?side2 ?side3 ?side4 A90.out).mono ?_); (case side1 => exact zc_ HR2_0 HB); (case side2 => exact HC2_0.out); (case side3 => exact zc_ HR2_1 HB); (case side4 => exact HC2_1.out); rintro e w219 ⟨v281, rfl, ho0, hb⟩; refine ⟨_, rfl, ?_⟩; have n0_ := Aside0.mk (Kd.R_elder' (zr_ HO274) (Kd.R_base ho0) hb); have n1_ := Aside0.mk (Kd.R_elder' (zr_ HO278) (Kd.R_base ho0) hb); have n2_ := Aside0.mk (Kd.R_lower (Kd.R_new' (Kd.R_new' ho0 (Kd.R_lt (zr_ HO274))) (Kd.R_lt (zr_ HO278))) (below_size zb_)); have n3_ := zk_ BK262 hb; have n4_ := zk_ BK263 hb; have n5_ := zk_ BK264 hb; have n6_ := zk_ BK265 hb; have n7_ := Aside0.mk (below_step zb_ hb); clear HO274; clear HO278; clear BK262; clear BK263; clear BK264; clear BK265; clear HB; have HO274 := n0_; have HO278 := n1_; have HO282 := n2_; have BK262 := n3_; have BK263 := n4_; have BK264 := n5_; have BK265 := n6_; have HB := n7_; clear n0_ n1_ n2_ n3_ n4_ n5_ n6_ n7_; (try clear hb); (try clear hb2); (try clear hk); (try clear hi); (try clear ho0); have hcz220_0 : w219.cell? ⟨gb265, 0, none⟩ = some (.slice A3_0 l3_0.length c3_0) := (blk_cell BK265.out 0).trans rfl; have hcz220_1 : w219.cell? ⟨gb265, 1, none⟩ = some (.slice A3_1 l3_1.length c3_1) := (blk_cell BK265.out 1).trans rfl; have hcz220_2 : w219.cell? ⟨gb265, 2, none⟩ = some (.int .i64 a3_2) := (blk_cell BK265.out 2).trans rfl; have hcz220_3 : w219.cell? ⟨gb265, 3, none⟩ = some (.int .u64 a3_3) := (blk_cell BK265.out 3).trans rfl; have hcz220_4 : w219.cell? ⟨gb265, 4, none⟩ = some (.int .i64 a3_4) := (blk_cell BK265.out 4).trans rfl; have hfz220_0 := blk_frozen BK265.out 0; have hfz220_1 := blk_frozen BK265.out 1; have hfz220_2 := blk_frozen BK265.out 2; have hfz220_3 := blk_frozen BK265.out 3; have hfz220_4 := blk_frozen BK265.out 4) | ((with_reducible refine gate_callee (f := 47) rfl ?_); refine goesL_ (some 75) rfl rfl Try.func47 (by kernel_rfl) rfl #[.agg #[.slice A3_0 l3_0.length c3_0, .slice A3_1 l3_1.length c3_1, .int .i64 a3_2, .int .u64 a3_3, .int .i64 a3_4]] rfl za_ ?_; (with_reducible refine (content_EncodeAll.calls kj4 _ _ l3_0 _ _ l3_1 a3_2 a3_3 a3_4 t284 t287 _ ?side1 ?side2 ?side3 ?side4 A91.out).mono ?_); (case side1 => exact zc_ HR3_0 HB); (case side2 => exact HC3_0.out); (case side3 => exact zc_ HR3_1 HB); (case side4 => exact HC3_1.out); rintro e w221 ⟨v285, rfl, ho0, hb⟩; refine ⟨_, rfl, ?_⟩; have n0_ := Aside0.mk (Kd.R_elder' (zr_ HO274) (Kd.R_base ho0) hb); have n1_ := Aside0.mk (Kd.R_elder' (zr_ HO278) (Kd.R_base ho0) hb); have n2_ := Aside0.mk (Kd.R_elder' (zr_ HO282) (Kd.R_base ho0) hb); have n3_ := Aside0.mk (Kd.R_lower (Kd.R_new' (Kd.R_new' (Kd.R_new' ho0 (Kd.R_lt (zr_ HO274))) (Kd.R_lt (zr_ HO278))) (Kd.R_lt (zr_ HO282))) (below_size zb_)); have n4_ := zk_ BK262 hb; have n5_ := zk_ BK263 hb; have n6_ := zk_ BK264 hb; have n7_ := zk_ BK265 hb; have n8_ := Aside0.mk (below_step zb_ hb); clear HO274; clear HO278; clear HO282; clear BK262; clear BK263; clear BK264; clear BK265; clear HB; have HO274 := n0_; have HO278 := n1_; have HO282 := n2_; have HO286 := n3_; have BK262 := n4_; have BK263 := n5_; have BK264 := n6_; have BK265 := n7_; have HB := n8_; clear n0_ n1_ n2_ n3_ n4_ n5_ n6_ n7_ n8_; (try clear hb); (try clear hb2); (try clear hk); (try clear hi); (try clear ho0)))
        go_ret
        exact ⟨by first | rfl | (simp [errW_none, errW_some] <;> rfl) | (simp [*, errW_none, errW_some] <;> rfl), by repeat (first | (with_reducible first | exact HB.out | apply below_alloc | apply pw_below_drewN | apply below_drew1 | refine below_set ?_ GE262.out | refine below_set ?_ GE263.out | refine below_set ?_ GE264.out | refine below_set ?_ GE265.out) | exact HB.out)⟩
      ·
       rw [if_neg c94] at H
       have c94b0 : (t283 == 0) = false := beq_eq_false_iff_ne.mpr c94
       have c94b1 : (t283 != 0) = true := bne_iff_ne.mpr c94
       obtain rfl := Option.some.inj H
       have hnb222 := NB262_263.out
       have hnc222 := NB263_262.out
       have hnb223 := NB262_264.out
       have hnc223 := NB264_262.out
       have hnb224 := NB262_265.out
       have hnc224 := NB265_262.out
       have hcz225_0 : wc.cell? ⟨gb262, 0, none⟩ = some (.int .u64 a0_0) := (blk_cell BK262.out 0).trans rfl
       have hcz225_1 : wc.cell? ⟨gb262, 1, none⟩ = some (.int .i64 a0_1) := (blk_cell BK262.out 1).trans rfl
       have hcz225_2 : wc.cell? ⟨gb262, 2, none⟩ = some (.int .u64 a0_2) := (blk_cell BK262.out 2).trans rfl
       have hcz225_3 : wc.cell? ⟨gb262, 3, none⟩ = some (.int .i64 a0_3) := (blk_cell BK262.out 3).trans rfl
       have hcz225_4 : wc.cell? ⟨gb262, 4, none⟩ = some (.slice A0_4 l0_4.length c0_4) := (blk_cell BK262.out 4).trans rfl
       have hfz225_0 := blk_frozen BK262.out 0
       have hfz225_1 := blk_frozen BK262.out 1
       have hfz225_2 := blk_frozen BK262.out 2
       have hfz225_3 := blk_frozen BK262.out 3
       have hfz225_4 := blk_frozen BK262.out 4
       go_wp2_with (first | ((with_reducible refine gate_callee (f := 46) rfl ?_); refine goesL_ (some 60) rfl rfl Try.func46 (by kernel_rfl) rfl #[.agg #[.int .u64 a0_0, .int .i64 a0_1, .int .u64 a0_2, .int .i64 a0_3, .slice A0_4 l0_4.length c0_4]] rfl za_ ?_; (with_reducible refine (content_EncodeOne.calls kj4 a0_0 a0_1 a0_2 a0_3 _ _ l0_4 t272 t275 _ ?side1 ?side2 A88.out).mono ?_); (case side1 => exact zc_ HR0_4 HB); (case side2 => exact HC0_4.out); rintro e w226 ⟨v273, rfl, ho0, hb⟩; refine ⟨_, rfl, ?_⟩; have n0_ := Aside0.mk (Kd.R_lower ho0 (below_size zb_)); have n1_ := zk_ BK262 hb; have n2_ := zk_ BK263 hb; have n3_ := zk_ BK264 hb; have n4_ := zk_ BK265 hb; have n5_ := Aside0.mk (below_step zb_ hb); clear BK262; clear BK263; clear BK264; clear BK265; clear HB; have HO274 := n0_; have BK262 := n1_; have BK263 := n2_; have BK264 := n3_; have BK265 := n4_; have HB := n5_; clear n0_ n1_ n2_ n3_ n4_ n5_; (try clear hb); (try clear hb2); (try clear hk); (try clear hi); (try clear ho0); have hnb227 := NB263_264.out; have hnc227 := NB264_263.out; have hnb228 := NB263_265.out; have hnc228 := NB265_263.out; have hcz229_0 : w226.cell? ⟨gb263, 0, none⟩ = some (.int .u64 a1_0) := (blk_cell BK263.out 0).trans rfl; have hcz229_1 : w226.cell? ⟨gb263, 1, none⟩ = some (.int .i64 a1_1) := (blk_cell BK263.out 1).trans rfl; have hcz229_2 : w226.cell? ⟨gb263, 2, none⟩ = some (.int .u64 a1_2) := (blk_cell BK263.out 2).trans rfl; have hcz229_3 : w226.cell? ⟨gb263, 3, none⟩ = some (.int .i64 a1_3) := (blk_cell BK263.out 3).trans rfl; have hcz229_4 : w226.cell? ⟨gb263, 4, none⟩ = some (.slice A1_4 l1_4.length c1_4) := (blk_cell BK263.out 4).trans rfl; have hfz229_0 := blk_frozen BK263.out 0; have hfz229_1 := blk_frozen BK263.out 1; have hfz229_2 := blk_frozen BK263.out 2; have hfz229_3 := blk_frozen BK263.out 3; have hfz229_4 := blk_frozen BK263.out 4) | ((with_reducible refine gate_callee (f := 46) rfl ?_); refine goesL_ (some 65) rfl rfl Try.func46 (by kernel_rfl) rfl #[.agg #[.int .u64 a1_0, .int .i64 a1_1, .int .u64 a1_2, .int .i64 a1_3, .slice A1_4 l1_4.length c1_4]] rfl za_ ?_; (with_reducible refine (content_EncodeOne.calls kj4 a1_0 a1_1 a1_2 a1_3 _ _ l1_4 t276 t279 _ ?side1 ?side2 A89.out).mono ?_); (case side1 => exact zc_ HR1_4 HB); (case side2 => exact HC1_4.out); rintro e w230 ⟨v277, rfl, ho0, hb⟩; refine ⟨_, rfl, ?_⟩; have n0_ := Aside0.mk (Kd.R_elder' (zr_ HO274) (Kd.R_base ho0) hb); have n1_ := Aside0.mk (Kd.R_lower (Kd.R_new' ho0 (Kd.R_lt (zr_ HO274))) (below_size zb_)); have n2_ := zk_ BK262 hb; have n3_ := zk_ BK263 hb; have n4_ := zk_ BK264 hb; have n5_ := zk_ BK265 hb; have n6_ := Aside0.mk (below_step zb_ hb); clear HO274; clear BK262; clear BK263; clear BK264; clear BK265; clear HB; have HO274 := n0_; have HO278 := n1_; have BK262 := n2_; have BK263 := n3_; have BK264 := n4_; have BK265 := n5_; have HB := n6_; clear n0_ n1_ n2_ n3_ n4_ n5_ n6_; (try clear hb); (try clear hb2); (try clear hk); (try clear hi); (try clear ho0); have hnb231 := NB264_265.out; have hnc231 := NB265_264.out; have hcz232_0 : w230.cell? ⟨gb264, 0, none⟩ = some (.slice A2_0 l2_0.length c2_0) := (blk_cell BK264.out 0).trans rfl; have hcz232_1 : w230.cell? ⟨gb264, 1, none⟩ = some (.slice A2_1 l2_1.length c2_1) := (blk_cell BK264.out 1).trans rfl; have hcz232_2 : w230.cell? ⟨gb264, 2, none⟩ = some (.int .i64 a2_2) := (blk_cell BK264.out 2).trans rfl; have hcz232_3 : w230.cell? ⟨gb264, 3, none⟩ = some (.int .u64 a2_3) := (blk_cell BK264.out 3).trans rfl; have hcz232_4 : w230.cell? ⟨gb264, 4, none⟩ = some (.int .i64 a2_4) := (blk_cell BK264.out 4).trans rfl; have hfz232_0 := blk_frozen BK264.out 0; have hfz232_1 := blk_frozen BK264.out 1; have hfz232_2 := blk_frozen BK264.out 2; have hfz232_3 := blk_frozen BK264.out 3; have hfz232_4 := blk_frozen BK264.out 4) | ((with_reducible refine gate_callee (f := 47) rfl ?_); refine goesL_ (some 70) rfl rfl Try.func47 (by kernel_rfl) rfl #[.agg #[.slice A2_0 l2_0.length c2_0, .slice A2_1 l2_1.length c2_1, .int .i64 a2_2, .int .u64 a2_3, .int .i64 a2_4]] rfl za_ ?_; (with_reducible refine (content_EncodeAll.calls kj4 _ _ l2_0 _ _ l2_1 a2_2 a2_3 a2_4 t280 t283 _ ?side1 ?side2 ?side3 ?side4 A90.out).mono ?_); (case side1 => exact zc_ HR2_0 HB); (case side2 => exact HC2_0.out); (case side3 => exact zc_ HR2_1 HB); (case side4 => exact HC2_1.out); rintro e w233 ⟨v281, rfl, ho0, hb⟩; refine ⟨_, rfl, ?_⟩; have n0_ := Aside0.mk (Kd.R_elder' (zr_ HO274) (Kd.R_base ho0) hb); have n1_ := Aside0.mk (Kd.R_elder' (zr_ HO278) (Kd.R_base ho0) hb); have n2_ := Aside0.mk (Kd.R_lower (Kd.R_new' (Kd.R_new' ho0 (Kd.R_lt (zr_ HO274))) (Kd.R_lt (zr_ HO278))) (below_size zb_)); have n3_ := zk_ BK262 hb; have n4_ := zk_ BK263 hb; have n5_ := zk_ BK264 hb; have n6_ := zk_ BK265 hb; have n7_ := Aside0.mk (below_step zb_ hb); clear HO274; clear HO278; clear BK262; clear BK263; clear BK264; clear BK265; clear HB; have HO274 := n0_; have HO278 := n1_; have HO282 := n2_; have BK262 := n3_; have BK263 := n4_; have BK264 := n5_; have BK265 := n6_; have HB := n7_; clear n0_ n1_ n2_ n3_ n4_ n5_ n6_ n7_; (try clear hb); (try clear hb2); (try clear hk); (try clear hi); (try clear ho0); have hcz234_0 : w233.cell? ⟨gb265, 0, none⟩ = some (.slice A3_0 l3_0.length c3_0) := (blk_cell BK265.out 0).trans rfl; have hcz234_1 : w233.cell? ⟨gb265, 1, none⟩ = some (.slice A3_1 l3_1.length c3_1) := (blk_cell BK265.out 1).trans rfl; have hcz234_2 : w233.cell? ⟨gb265, 2, none⟩ = some (.int .i64 a3_2) := (blk_cell BK265.out 2).trans rfl; have hcz234_3 : w233.cell? ⟨gb265, 3, none⟩ = some (.int .u64 a3_3) := (blk_cell BK265.out 3).trans rfl; have hcz234_4 : w233.cell? ⟨gb265, 4, none⟩ = some (.int .i64 a3_4) := (blk_cell BK265.out 4).trans rfl; have hfz234_0 := blk_frozen BK265.out 0; have hfz234_1 := blk_frozen BK265.out 1; have hfz234_2 := blk_frozen BK265.out 2; have hfz234_3 := blk_frozen BK265.out 3; have hfz234_4 := blk_frozen BK265.out 4) | ((with_reducible refine gate_callee (f := 47) rfl ?_); refine goesL_ (some 75) rfl rfl Try.func47 (by kernel_rfl) rfl #[.agg #[.slice A3_0 l3_0.length c3_0, .slice A3_1 l3_1.length c3_1, .int .i64 a3_2, .int .u64 a3_3, .int .i64 a3_4]] rfl za_ ?_; (with_reducible refine (content_EncodeAll.calls kj4 _ _ l3_0 _ _ l3_1 a3_2 a3_3 a3_4 t284 t287 _ ?side1 ?side2 ?side3 ?side4 A91.out).mono ?_); (case side1 => exact zc_ HR3_0 HB); (case side2 => exact HC3_0.out); (case side3 => exact zc_ HR3_1 HB); (case side4 => exact HC3_1.out); rintro e w235 ⟨v285, rfl, ho0, hb⟩; refine ⟨_, rfl, ?_⟩; have n0_ := Aside0.mk (Kd.R_elder' (zr_ HO274) (Kd.R_base ho0) hb); have n1_ := Aside0.mk (Kd.R_elder' (zr_ HO278) (Kd.R_base ho0) hb); have n2_ := Aside0.mk (Kd.R_elder' (zr_ HO282) (Kd.R_base ho0) hb); have n3_ := Aside0.mk (Kd.R_lower (Kd.R_new' (Kd.R_new' (Kd.R_new' ho0 (Kd.R_lt (zr_ HO274))) (Kd.R_lt (zr_ HO278))) (Kd.R_lt (zr_ HO282))) (below_size zb_)); have n4_ := zk_ BK262 hb; have n5_ := zk_ BK263 hb; have n6_ := zk_ BK264 hb; have n7_ := zk_ BK265 hb; have n8_ := Aside0.mk (below_step zb_ hb); clear HO274; clear HO278; clear HO282; clear BK262; clear BK263; clear BK264; clear BK265; clear HB; have HO274 := n0_; have HO278 := n1_; have HO282 := n2_; have HO286 := n3_; have BK262 := n4_; have BK263 := n5_; have BK264 := n6_; have BK265 := n7_; have HB := n8_; clear n0_ n1_ n2_ n3_ n4_ n5_ n6_ n7_ n8_; (try clear hb); (try clear hb2); (try clear hk); (try clear hi); (try clear ho0)))
       go_ret
       exact ⟨by first | rfl | (simp [errW_none, errW_some] <;> rfl) | (simp [*, errW_none, errW_some] <;> rfl), by repeat (first | (with_reducible first | exact HB.out | apply below_alloc | apply pw_below_drewN | apply below_drew1 | refine below_set ?_ GE262.out | refine below_set ?_ GE263.out | refine below_set ?_ GE264.out | refine below_set ?_ GE265.out) | exact HB.out)⟩
     ·
      rw [if_neg c93] at H
      have c93b0 : (t279 == 0) = false := beq_eq_false_iff_ne.mpr c93
      have c93b1 : (t279 != 0) = true := bne_iff_ne.mpr c93
      obtain rfl := Option.some.inj H
      have hnb236 := NB262_263.out
      have hnc236 := NB263_262.out
      have hnb237 := NB262_264.out
      have hnc237 := NB264_262.out
      have hnb238 := NB262_265.out
      have hnc238 := NB265_262.out
      have hcz239_0 : wc.cell? ⟨gb262, 0, none⟩ = some (.int .u64 a0_0) := (blk_cell BK262.out 0).trans rfl
      have hcz239_1 : wc.cell? ⟨gb262, 1, none⟩ = some (.int .i64 a0_1) := (blk_cell BK262.out 1).trans rfl
      have hcz239_2 : wc.cell? ⟨gb262, 2, none⟩ = some (.int .u64 a0_2) := (blk_cell BK262.out 2).trans rfl
      have hcz239_3 : wc.cell? ⟨gb262, 3, none⟩ = some (.int .i64 a0_3) := (blk_cell BK262.out 3).trans rfl
      have hcz239_4 : wc.cell? ⟨gb262, 4, none⟩ = some (.slice A0_4 l0_4.length c0_4) := (blk_cell BK262.out 4).trans rfl
      have hfz239_0 := blk_frozen BK262.out 0
      have hfz239_1 := blk_frozen BK262.out 1
      have hfz239_2 := blk_frozen BK262.out 2
      have hfz239_3 := blk_frozen BK262.out 3
      have hfz239_4 := blk_frozen BK262.out 4
      go_wp2_with (first | ((with_reducible refine gate_callee (f := 46) rfl ?_); refine goesL_ (some 60) rfl rfl Try.func46 (by kernel_rfl) rfl #[.agg #[.int .u64 a0_0, .int .i64 a0_1, .int .u64 a0_2, .int .i64 a0_3, .slice A0_4 l0_4.length c0_4]] rfl za_ ?_; (with_reducible refine (content_EncodeOne.calls kj4 a0_0 a0_1 a0_2 a0_3 _ _ l0_4 t272 t275 _ ?side1 ?side2 A88.out).mono ?_); (case side1 => exact zc_ HR0_4 HB); (case side2 => exact HC0_4.out); rintro e w240 ⟨v273, rfl, ho0, hb⟩; refine ⟨_, rfl, ?_⟩; have n0_ := Aside0.mk (Kd.R_lower ho0 (below_size zb_)); have n1_ := zk_ BK262 hb; have n2_ := zk_ BK263 hb; have n3_ := zk_ BK264 hb; have n4_ := zk_ BK265 hb; have n5_ := Aside0.mk (below_step zb_ hb); clear BK262; clear BK263; clear BK264; clear BK265; clear HB; have HO274 := n0_; have BK262 := n1_; have BK263 := n2_; have BK264 := n3_; have BK265 := n4_; have HB := n5_; clear n0_ n1_ n2_ n3_ n4_ n5_; (try clear hb); (try clear hb2); (try clear hk); (try clear hi); (try clear ho0); have hnb241 := NB263_264.out; have hnc241 := NB264_263.out; have hnb242 := NB263_265.out; have hnc242 := NB265_263.out; have hcz243_0 : w240.cell? ⟨gb263, 0, none⟩ = some (.int .u64 a1_0) := (blk_cell BK263.out 0).trans rfl; have hcz243_1 : w240.cell? ⟨gb263, 1, none⟩ = some (.int .i64 a1_1) := (blk_cell BK263.out 1).trans rfl; have hcz243_2 : w240.cell? ⟨gb263, 2, none⟩ = some (.int .u64 a1_2) := (blk_cell BK263.out 2).trans rfl; have hcz243_3 : w240.cell? ⟨gb263, 3, none⟩ = some (.int .i64 a1_3) := (blk_cell BK263.out 3).trans rfl; have hcz243_4 : w240.cell? ⟨gb263, 4, none⟩ = some (.slice A1_4 l1_4.length c1_4) := (blk_cell BK263.out 4).trans rfl; have hfz243_0 := blk_frozen BK263.out 0; have hfz243_1 := blk_frozen BK263.out 1; have hfz243_2 := blk_frozen BK263.out 2; have hfz243_3 := blk_frozen BK263.out 3; have hfz243_4 := blk_frozen BK263.out 4) | ((with_reducible refine gate_callee (f := 46) rfl ?_); refine goesL_ (some 65) rfl rfl Try.func46 (by kernel_rfl) rfl #[.agg #[.int .u64 a1_0, .int .i64 a1_1, .int .u64 a1_2, .int .i64 a1_3, .slice A1_4 l1_4.length c1_4]] rfl za_ ?_; (with_reducible refine (content_EncodeOne.calls kj4 a1_0 a1_1 a1_2 a1_3 _ _ l1_4 t276 t279 _ ?side1 ?side2 A89.out).mono ?_); (case side1 => exact zc_ HR1_4 HB); (case side2 => exact HC1_4.out); rintro e w244 ⟨v277, rfl, ho0, hb⟩; refine ⟨_, rfl, ?_⟩; have n0_ := Aside0.mk (Kd.R_elder' (zr_ HO274) (Kd.R_base ho0) hb); have n1_ := Aside0.mk (Kd.R_lower (Kd.R_new' ho0 (Kd.R_lt (zr_ HO274))) (below_size zb_)); have n2_ := zk_ BK262 hb; have n3_ := zk_ BK263 hb; have n4_ := zk_ BK264 hb; have n5_ := zk_ BK265 hb; have n6_ := Aside0.mk (below_step zb_ hb); clear HO274; clear BK262; clear BK263; clear BK264; clear BK265; clear HB; have HO274 := n0_; have HO278 := n1_; have BK262 := n2_; have BK263 := n3_; have BK264 := n4_; have BK265 := n5_; have HB := n6_; clear n0_ n1_ n2_ n3_ n4_ n5_ n6_; (try clear hb); (try clear hb2); (try clear hk); (try clear hi); (try clear ho0); have hnb245 := NB264_265.out; have hnc245 := NB265_264.out; have hcz246_0 : w244.cell? ⟨gb264, 0, none⟩ = some (.slice A2_0 l2_0.length c2_0) := (blk_cell BK264.out 0).trans rfl; have hcz246_1 : w244.cell? ⟨gb264, 1, none⟩ = some (.slice A2_1 l2_1.length c2_1) := (blk_cell BK264.out 1).trans rfl; have hcz246_2 : w244.cell? ⟨gb264, 2, none⟩ = some (.int .i64 a2_2) := (blk_cell BK264.out 2).trans rfl; have hcz246_3 : w244.cell? ⟨gb264, 3, none⟩ = some (.int .u64 a2_3) := (blk_cell BK264.out 3).trans rfl; have hcz246_4 : w244.cell? ⟨gb264, 4, none⟩ = some (.int .i64 a2_4) := (blk_cell BK264.out 4).trans rfl; have hfz246_0 := blk_frozen BK264.out 0; have hfz246_1 := blk_frozen BK264.out 1; have hfz246_2 := blk_frozen BK264.out 2; have hfz246_3 := blk_frozen BK264.out 3; have hfz246_4 := blk_frozen BK264.out 4) | ((with_reducible refine gate_callee (f := 47) rfl ?_); refine goesL_ (some 70) rfl rfl Try.func47 (by kernel_rfl) rfl #[.agg #[.slice A2_0 l2_0.length c2_0, .slice A2_1 l2_1.length c2_1, .int .i64 a2_2, .int .u64 a2_3, .int .i64 a2_4]] rfl za_ ?_; (with_reducible refine (content_EncodeAll.calls kj4 _ _ l2_0 _ _ l2_1 a2_2 a2_3 a2_4 t280 t283 _ ?side1 ?side2 ?side3 ?side4 A90.out).mono ?_); (case side1 => exact zc_ HR2_0 HB); (case side2 => exact HC2_0.out); (case side3 => exact zc_ HR2_1 HB); (case side4 => exact HC2_1.out); rintro e w247 ⟨v281, rfl, ho0, hb⟩; refine ⟨_, rfl, ?_⟩; have n0_ := Aside0.mk (Kd.R_elder' (zr_ HO274) (Kd.R_base ho0) hb); have n1_ := Aside0.mk (Kd.R_elder' (zr_ HO278) (Kd.R_base ho0) hb); have n2_ := Aside0.mk (Kd.R_lower (Kd.R_new' (Kd.R_new' ho0 (Kd.R_lt (zr_ HO274))) (Kd.R_lt (zr_ HO278))) (below_size zb_)); have n3_ := zk_ BK262 hb; have n4_ := zk_ BK263 hb; have n5_ := zk_ BK264 hb; have n6_ := zk_ BK265 hb; have n7_ := Aside0.mk (below_step zb_ hb); clear HO274; clear HO278; clear BK262; clear BK263; clear BK264; clear BK265; clear HB; have HO274 := n0_; have HO278 := n1_; have HO282 := n2_; have BK262 := n3_; have BK263 := n4_; have BK264 := n5_; have BK265 := n6_; have HB := n7_; clear n0_ n1_ n2_ n3_ n4_ n5_ n6_ n7_; (try clear hb); (try clear hb2); (try clear hk); (try clear hi); (try clear ho0); have hcz248_0 : w247.cell? ⟨gb265, 0, none⟩ = some (.slice A3_0 l3_0.length c3_0) := (blk_cell BK265.out 0).trans rfl; have hcz248_1 : w247.cell? ⟨gb265, 1, none⟩ = some (.slice A3_1 l3_1.length c3_1) := (blk_cell BK265.out 1).trans rfl; have hcz248_2 : w247.cell? ⟨gb265, 2, none⟩ = some (.int .i64 a3_2) := (blk_cell BK265.out 2).trans rfl; have hcz248_3 : w247.cell? ⟨gb265, 3, none⟩ = some (.int .u64 a3_3) := (blk_cell BK265.out 3).trans rfl; have hcz248_4 : w247.cell? ⟨gb265, 4, none⟩ = some (.int .i64 a3_4) := (blk_cell BK265.out 4).trans rfl; have hfz248_0 := blk_frozen BK265.out 0; have hfz248_1 := blk_frozen BK265.out 1; have hfz248_2 := blk_frozen BK265.out 2; have hfz248_3 := blk_frozen BK265.out 3; have hfz248_4 := blk_frozen BK265.out 4) | ((with_reducible refine gate_callee (f := 47) rfl ?_); refine goesL_ (some 75) rfl rfl Try.func47 (by kernel_rfl) rfl #[.agg #[.slice A3_0 l3_0.length c3_0, .slice A3_1 l3_1.length c3_1, .int .i64 a3_2, .int .u64 a3_3, .int .i64 a3_4]] rfl za_ ?_; (with_reducible refine (content_EncodeAll.calls kj4 _ _ l3_0 _ _ l3_1 a3_2 a3_3 a3_4 t284 t287 _ ?side1 ?side2 ?side3 ?side4 A91.out).mono ?_); (case side1 => exact zc_ HR3_0 HB); (case side2 => exact HC3_0.out); (case side3 => exact zc_ HR3_1 HB); (case side4 => exact HC3_1.out); rintro e w249 ⟨v285, rfl, ho0, hb⟩; refine ⟨_, rfl, ?_⟩; have n0_ := Aside0.mk (Kd.R_elder' (zr_ HO274) (Kd.R_base ho0) hb); have n1_ := Aside0.mk (Kd.R_elder' (zr_ HO278) (Kd.R_base ho0) hb); have n2_ := Aside0.mk (Kd.R_elder' (zr_ HO282) (Kd.R_base ho0) hb); have n3_ := Aside0.mk (Kd.R_lower (Kd.R_new' (Kd.R_new' (Kd.R_new' ho0 (Kd.R_lt (zr_ HO274))) (Kd.R_lt (zr_ HO278))) (Kd.R_lt (zr_ HO282))) (below_size zb_)); have n4_ := zk_ BK262 hb; have n5_ := zk_ BK263 hb; have n6_ := zk_ BK264 hb; have n7_ := zk_ BK265 hb; have n8_ := Aside0.mk (below_step zb_ hb); clear HO274; clear HO278; clear HO282; clear BK262; clear BK263; clear BK264; clear BK265; clear HB; have HO274 := n0_; have HO278 := n1_; have HO282 := n2_; have HO286 := n3_; have BK262 := n4_; have BK263 := n5_; have BK264 := n6_; have BK265 := n7_; have HB := n8_; clear n0_ n1_ n2_ n3_ n4_ n5_ n6_ n7_ n8_; (try clear hb); (try clear hb2); (try clear hk); (try clear hi); (try clear ho0)))
      go_ret
      exact ⟨by first | rfl | (simp [errW_none, errW_some] <;> rfl) | (simp [*, errW_none, errW_some] <;> rfl), by repeat (first | (with_reducible first | exact HB.out | apply below_alloc | apply pw_below_drewN | apply below_drew1 | refine below_set ?_ GE262.out | refine below_set ?_ GE263.out | refine below_set ?_ GE264.out | refine below_set ?_ GE265.out) | exact HB.out)⟩
    ·
     rw [if_neg c92] at H
     have c92b0 : (t275 == 0) = false := beq_eq_false_iff_ne.mpr c92
     have c92b1 : (t275 != 0) = true := bne_iff_ne.mpr c92
     obtain rfl := Option.some.inj H
     have hnb250 := NB262_263.out
     have hnc250 := NB263_262.out
     have hnb251 := NB262_264.out
     have hnc251 := NB264_262.out
     have hnb252 := NB262_265.out
     have hnc252 := NB265_262.out
     have hcz253_0 : wc.cell? ⟨gb262, 0, none⟩ = some (.int .u64 a0_0) := (blk_cell BK262.out 0).trans rfl
     have hcz253_1 : wc.cell? ⟨gb262, 1, none⟩ = some (.int .i64 a0_1) := (blk_cell BK262.out 1).trans rfl
     have hcz253_2 : wc.cell? ⟨gb262, 2, none⟩ = some (.int .u64 a0_2) := (blk_cell BK262.out 2).trans rfl
     have hcz253_3 : wc.cell? ⟨gb262, 3, none⟩ = some (.int .i64 a0_3) := (blk_cell BK262.out 3).trans rfl
     have hcz253_4 : wc.cell? ⟨gb262, 4, none⟩ = some (.slice A0_4 l0_4.length c0_4) := (blk_cell BK262.out 4).trans rfl
     have hfz253_0 := blk_frozen BK262.out 0
     have hfz253_1 := blk_frozen BK262.out 1
     have hfz253_2 := blk_frozen BK262.out 2
     have hfz253_3 := blk_frozen BK262.out 3
     have hfz253_4 := blk_frozen BK262.out 4
     go_wp2_with (first | ((with_reducible refine gate_callee (f := 46) rfl ?_); refine goesL_ (some 60) rfl rfl Try.func46 (by kernel_rfl) rfl #[.agg #[.int .u64 a0_0, .int .i64 a0_1, .int .u64 a0_2, .int .i64 a0_3, .slice A0_4 l0_4.length c0_4]] rfl za_ ?_; (with_reducible refine (content_EncodeOne.calls kj4 a0_0 a0_1 a0_2 a0_3 _ _ l0_4 t272 t275 _ ?side1 ?side2 A88.out).mono ?_); (case side1 => exact zc_ HR0_4 HB); (case side2 => exact HC0_4.out); rintro e w254 ⟨v273, rfl, ho0, hb⟩; refine ⟨_, rfl, ?_⟩; have n0_ := Aside0.mk (Kd.R_lower ho0 (below_size zb_)); have n1_ := zk_ BK262 hb; have n2_ := zk_ BK263 hb; have n3_ := zk_ BK264 hb; have n4_ := zk_ BK265 hb; have n5_ := Aside0.mk (below_step zb_ hb); clear BK262; clear BK263; clear BK264; clear BK265; clear HB; have HO274 := n0_; have BK262 := n1_; have BK263 := n2_; have BK264 := n3_; have BK265 := n4_; have HB := n5_; clear n0_ n1_ n2_ n3_ n4_ n5_; (try clear hb); (try clear hb2); (try clear hk); (try clear hi); (try clear ho0); have hnb255 := NB263_264.out; have hnc255 := NB264_263.out; have hnb256 := NB263_265.out; have hnc256 := NB265_263.out; have hcz257_0 : w254.cell? ⟨gb263, 0, none⟩ = some (.int .u64 a1_0) := (blk_cell BK263.out 0).trans rfl; have hcz257_1 : w254.cell? ⟨gb263, 1, none⟩ = some (.int .i64 a1_1) := (blk_cell BK263.out 1).trans rfl; have hcz257_2 : w254.cell? ⟨gb263, 2, none⟩ = some (.int .u64 a1_2) := (blk_cell BK263.out 2).trans rfl; have hcz257_3 : w254.cell? ⟨gb263, 3, none⟩ = some (.int .i64 a1_3) := (blk_cell BK263.out 3).trans rfl; have hcz257_4 : w254.cell? ⟨gb263, 4, none⟩ = some (.slice A1_4 l1_4.length c1_4) := (blk_cell BK263.out 4).trans rfl; have hfz257_0 := blk_frozen BK263.out 0; have hfz257_1 := blk_frozen BK263.out 1; have hfz257_2 := blk_frozen BK263.out 2; have hfz257_3 := blk_frozen BK263.out 3; have hfz257_4 := blk_frozen BK263.out 4) | ((with_reducible refine gate_callee (f := 46) rfl ?_); refine goesL_ (some 65) rfl rfl Try.func46 (by kernel_rfl) rfl #[.agg #[.int .u64 a1_0, .int .i64 a1_1, .int .u64 a1_2, .int .i64 a1_3, .slice A1_4 l1_4.length c1_4]] rfl za_ ?_; (with_reducible refine (content_EncodeOne.calls kj4 a1_0 a1_1 a1_2 a1_3 _ _ l1_4 t276 t279 _ ?side1 ?side2 A89.out).mono ?_); (case side1 => exact zc_ HR1_4 HB); (case side2 => exact HC1_4.out); rintro e w258 ⟨v277, rfl, ho0, hb⟩; refine ⟨_, rfl, ?_⟩; have n0_ := Aside0.mk (Kd.R_elder' (zr_ HO274) (Kd.R_base ho0) hb); have n1_ := Aside0.mk (Kd.R_lower (Kd.R_new' ho0 (Kd.R_lt (zr_ HO274))) (below_size zb_)); have n2_ := zk_ BK262 hb; have n3_ := zk_ BK263 hb; have n4_ := zk_ BK264 hb; have n5_ := zk_ BK265 hb; have n6_ := Aside0.mk (below_step zb_ hb); clear HO274; clear BK262; clear BK263; clear BK264; clear BK265; clear HB; have HO274 := n0_; have HO278 := n1_; have BK262 := n2_; have BK263 := n3_; have BK264 := n4_; have BK265 := n5_; have HB := n6_; clear n0_ n1_ n2_ n3_ n4_ n5_ n6_; (try clear hb); (try clear hb2); (try clear hk); (try clear hi); (try clear ho0); have hnb259 := NB264_265.out; have hnc259 := NB265_264.out; have hcz260_0 : w258.cell? ⟨gb264, 0, none⟩ = some (.slice A2_0 l2_0.length c2_0) := (blk_cell BK264.out 0).trans rfl; have hcz260_1 : w258.cell? ⟨gb264, 1, none⟩ = some (.slice A2_1 l2_1.length c2_1) := (blk_cell BK264.out 1).trans rfl; have hcz260_2 : w258.cell? ⟨gb264, 2, none⟩ = some (.int .i64 a2_2) := (blk_cell BK264.out 2).trans rfl; have hcz260_3 : w258.cell? ⟨gb264, 3, none⟩ = some (.int .u64 a2_3) := (blk_cell BK264.out 3).trans rfl; have hcz260_4 : w258.cell? ⟨gb264, 4, none⟩ = some (.int .i64 a2_4) := (blk_cell BK264.out 4).trans rfl; have hfz260_0 := blk_frozen BK264.out 0; have hfz260_1 := blk_frozen BK264.out 1; have hfz260_2 := blk_frozen BK264.out 2; have hfz260_3 := blk_frozen BK264.out 3; have hfz260_4 := blk_frozen BK264.out 4) | ((with_reducible refine gate_callee (f := 47) rfl ?_); refine goesL_ (some 70) rfl rfl Try.func47 (by kernel_rfl) rfl #[.agg #[.slice A2_0 l2_0.length c2_0, .slice A2_1 l2_1.length c2_1, .int .i64 a2_2, .int .u64 a2_3, .int .i64 a2_4]] rfl za_ ?_; (with_reducible refine (content_EncodeAll.calls kj4 _ _ l2_0 _ _ l2_1 a2_2 a2_3 a2_4 t280 t283 _ ?side1 ?side2 ?side3 ?side4 A90.out).mono ?_); (case side1 => exact zc_ HR2_0 HB); (case side2 => exact HC2_0.out); (case side3 => exact zc_ HR2_1 HB); (case side4 => exact HC2_1.out); rintro e w261 ⟨v281, rfl, ho0, hb⟩; refine ⟨_, rfl, ?_⟩; have n0_ := Aside0.mk (Kd.R_elder' (zr_ HO274) (Kd.R_base ho0) hb); have n1_ := Aside0.mk (Kd.R_elder' (zr_ HO278) (Kd.R_base ho0) hb); have n2_ := Aside0.mk (Kd.R_lower (Kd.R_new' (Kd.R_new' ho0 (Kd.R_lt (zr_ HO274))) (Kd.R_lt (zr_ HO278))) (below_size zb_)); have n3_ := zk_ BK262 hb; have n4_ := zk_ BK263 hb; have n5_ := zk_ BK264 hb; have n6_ := zk_ BK265 hb; have n7_ := Aside0.mk (below_step zb_ hb); clear HO274; clear HO278; clear BK262; clear BK263; clear BK264; clear BK265; clear HB; have HO274 := n0_; have HO278 := n1_; have HO282 := n2_; have BK262 := n3_; have BK263 := n4_; have BK264 := n5_; have BK265 := n6_; have HB := n7_; clear n0_ n1_ n2_ n3_ n4_ n5_ n6_ n7_; (try clear hb); (try clear hb2); (try clear hk); (try clear hi); (try clear ho0); have hcz262_0 : w261.cell? ⟨gb265, 0, none⟩ = some (.slice A3_0 l3_0.length c3_0) := (blk_cell BK265.out 0).trans rfl; have hcz262_1 : w261.cell? ⟨gb265, 1, none⟩ = some (.slice A3_1 l3_1.length c3_1) := (blk_cell BK265.out 1).trans rfl; have hcz262_2 : w261.cell? ⟨gb265, 2, none⟩ = some (.int .i64 a3_2) := (blk_cell BK265.out 2).trans rfl; have hcz262_3 : w261.cell? ⟨gb265, 3, none⟩ = some (.int .u64 a3_3) := (blk_cell BK265.out 3).trans rfl; have hcz262_4 : w261.cell? ⟨gb265, 4, none⟩ = some (.int .i64 a3_4) := (blk_cell BK265.out 4).trans rfl; have hfz262_0 := blk_frozen BK265.out 0; have hfz262_1 := blk_frozen BK265.out 1; have hfz262_2 := blk_frozen BK265.out 2; have hfz262_3 := blk_frozen BK265.out 3; have hfz262_4 := blk_frozen BK265.out 4) | ((with_reducible refine gate_callee (f := 47) rfl ?_); refine goesL_ (some 75) rfl rfl Try.func47 (by kernel_rfl) rfl #[.agg #[.slice A3_0 l3_0.length c3_0, .slice A3_1 l3_1.length c3_1, .int .i64 a3_2, .int .u64 a3_3, .int .i64 a3_4]] rfl za_ ?_; (with_reducible refine (content_EncodeAll.calls kj4 _ _ l3_0 _ _ l3_1 a3_2 a3_3 a3_4 t284 t287 _ ?side1 ?side2 ?side3 ?side4 A91.out).mono ?_); (case side1 => exact zc_ HR3_0 HB); (case side2 => exact HC3_0.out); (case side3 => exact zc_ HR3_1 HB); (case side4 => exact HC3_1.out); rintro e w263 ⟨v285, rfl, ho0, hb⟩; refine ⟨_, rfl, ?_⟩; have n0_ := Aside0.mk (Kd.R_elder' (zr_ HO274) (Kd.R_base ho0) hb); have n1_ := Aside0.mk (Kd.R_elder' (zr_ HO278) (Kd.R_base ho0) hb); have n2_ := Aside0.mk (Kd.R_elder' (zr_ HO282) (Kd.R_base ho0) hb); have n3_ := Aside0.mk (Kd.R_lower (Kd.R_new' (Kd.R_new' (Kd.R_new' ho0 (Kd.R_lt (zr_ HO274))) (Kd.R_lt (zr_ HO278))) (Kd.R_lt (zr_ HO282))) (below_size zb_)); have n4_ := zk_ BK262 hb; have n5_ := zk_ BK263 hb; have n6_ := zk_ BK264 hb; have n7_ := zk_ BK265 hb; have n8_ := Aside0.mk (below_step zb_ hb); clear HO274; clear HO278; clear HO282; clear BK262; clear BK263; clear BK264; clear BK265; clear HB; have HO274 := n0_; have HO278 := n1_; have HO282 := n2_; have HO286 := n3_; have BK262 := n4_; have BK263 := n5_; have BK264 := n6_; have BK265 := n7_; have HB := n8_; clear n0_ n1_ n2_ n3_ n4_ n5_ n6_ n7_ n8_; (try clear hb); (try clear hb2); (try clear hk); (try clear hi); (try clear ho0)))
     go_ret
     exact ⟨by first | rfl | (simp [errW_none, errW_some] <;> rfl) | (simp [*, errW_none, errW_some] <;> rfl), by repeat (first | (with_reducible first | exact HB.out | apply below_alloc | apply pw_below_drewN | apply below_drew1 | refine below_set ?_ GE262.out | refine below_set ?_ GE263.out | refine below_set ?_ GE264.out | refine below_set ?_ GE265.out) | exact HB.out)⟩
end Go.Proofs.Ytioooiflpabngaa.PAll
end
section
namespace Go.Proofs.Ytioooiflpabngaa.PAll
open Go.RowKit Go.Proofs.YtioooiflpabngaaW.PrintWords
set_option linter.unusedVariables false
set_option linter.unusedSimpArgs false
theorem ne_spell (a b : S27) : ((!(a.f0.f0 == b.f0.f0) || (!(a.f0.f1 == b.f0.f1))) || (!(a.f1 == b.f1) || (!(a.f2 == b.f2)))) = !eqL a b := by
  unfold eqL
  simp only [Bool.not_and]
theorem rightB_byt {b : List Int} (h : rightB b) : Byt b := fun n hn => by
  have h3 := h.2 n hn
  simp only [Lit.wf, Bool.and_eq_true, decide_eq_true_eq] at h3
  have e1 : IntKind.u8.min = 0 := by decide
  have e2 : IntKind.u8.max = 255 := by decide
  omega
theorem same_any (a b : List S32) (hl : a.length = b.length) (hm : a.length < 9223372036854775807) (ha : ∀ e ∈ a, Byt e.f1) (hb : ∀ e ∈ b, Byt e.f1) : ∀ (d i : Nat), d = a.length - i → i ≤ a.length → ∃ r, Ev (fun k => folkmootref15_Same.l0 k a b (i : Int)) r ∧ (r = true ↔ a.drop i = b.drop i) := by
  intro d
  induction d with
  | zero =>
    intro i hd hi
    have : i = a.length := by omega
    subst this
    refine ⟨true, Ev.step (fun k => by rw [folkmootref15_Same.l0, if_neg (by omega)]) (Ev.const fun _ => rfl), ?_⟩
    rw [List.drop_length, hl, List.drop_length]
    simp
  | succ d ih =>
    intro i hd hi
    have h1 : i < a.length := by omega
    have h2 : i < b.length := by omega
    obtain ⟨r, hr, hc⟩ := ih (i + 1) (by omega) (by omega)
    have s1 := str_inj (ha _ (List.getElem_mem h1)) (hb _ (List.getElem_mem h2))
    have start : ∀ q, Ev (fun k => if (!eqL a[i].f0 b[i].f0) = true then some false else (if (strOfNums a[i].f1).toList = (strOfNums b[i].f1).toList then folkmootref15_Same.l0 k a b ((i + 1 : Nat) : Int) else some false)) q → Ev (fun k => folkmootref15_Same.l0 k a b (i : Int)) q := fun q hq => by
      refine Ev.step (fun k => ?_) hq
      rw [folkmootref15_Same.l0, if_pos (by omega), if_pos (by omega), if_pos (by omega), rdE_nat h1, rdE_nat h2, ne_spell, wrap_nat (by omega)]
    rw [List.drop_eq_getElem_cons h1, List.drop_eq_getElem_cons h2]
    cases hq : eqL a[i].f0 b[i].f0 with
    | false =>
      rw [hq] at start
      refine ⟨false, start _ (Ev.const fun _ => by simp), ?_⟩
      simp only [Bool.false_eq_true, false_iff, List.cons.injEq, not_and]
      intro e
      rw [e, eqL_iff.2 rfl] at hq
      cases hq
    | true =>
      rw [hq] at start
      by_cases hs : (strOfNums a[i].f1).toList = (strOfNums b[i].f1).toList
      · refine ⟨r, start _ ?_, ?_⟩
        · simp only [Bool.not_true, Bool.false_eq_true, if_false, hs, if_true]
          exact hr
        · rw [hc, List.cons.injEq]
          have e1 := eqL_iff.1 hq
          have e2 := s1.1 hs
          have e3 : a[i] = b[i] := by
            generalize a[i] = u at e1 e2
            generalize b[i] = v at e1 e2
            cases u; cases v
            simp only at e1 e2
            rw [e1, e2]
          exact ⟨fun h => ⟨e3, h⟩, fun h => h.2⟩
      · refine ⟨false, start _ (Ev.const fun _ => by simp [hs]), ?_⟩
        simp only [Bool.false_eq_true, false_iff, List.cons.injEq, not_and]
        intro e
        rw [e] at hs
        exact absurd rfl hs
theorem sameE_any (a b : List S32) (hm : a.length < 9223372036854775807) (ha : ∀ e ∈ a, Byt e.f1) (hb : ∀ e ∈ b, Byt e.f1) : ∃ r, Ev (fun k => folkmootref15_Same.f k a b) r ∧ (r = true ↔ a = b) := by
  unfold folkmootref15_Same.f
  by_cases hl : a.length = b.length
  · obtain ⟨r, hr, hc⟩ := same_any a b hl hm ha hb a.length 0 rfl (Nat.zero_le _)
    refine ⟨r, ?_, by simpa using hc⟩
    have c1 : (a.length : Int) = (b.length : Int) := by omega
    simp only [c1, if_true]
    exact hr
  · refine ⟨false, ?_, ?_⟩
    · have c1 : ¬ (a.length : Int) = (b.length : Int) := by omega
      simp only [c1, if_false]
      exact Ev.const fun _ => rfl
    · simp only [Bool.false_eq_true, false_iff]
      intro e
      rw [e] at hl
      exact hl rfl
theorem sameLs_any (a b : List S27) (hl : a.length = b.length) (hm : a.length < 9223372036854775807) : ∀ (d i : Nat), d = a.length - i → i ≤ a.length → ∃ r, Ev (fun k => folkmootref05_Same.l0 k a b (i : Int)) r ∧ (r = true ↔ a.drop i = b.drop i) := by
  intro d
  induction d with
  | zero =>
    intro i hd hi
    have : i = a.length := by omega
    subst this
    refine ⟨true, Ev.step (fun k => by rw [folkmootref05_Same.l0, if_neg (by omega)]) (Ev.const fun _ => rfl), ?_⟩
    rw [List.drop_length, hl, List.drop_length]
    simp
  | succ d ih =>
    intro i hd hi
    have h1 : i < a.length := by omega
    have h2 : i < b.length := by omega
    obtain ⟨r, hr, hc⟩ := ih (i + 1) (by omega) (by omega)
    have start : ∀ q, Ev (fun k => if (!eqL a[i] b[i]) = true then some false else folkmootref05_Same.l0 k a b ((i + 1 : Nat) : Int)) q → Ev (fun k => folkmootref05_Same.l0 k a b (i : Int)) q := fun q hq => by
      refine Ev.step (fun k => ?_) hq
      rw [folkmootref05_Same.l0, if_pos (by omega), if_pos (by omega), if_pos (by omega), rdL_nat h1, rdL_nat h2, ne_spell, wrap_nat (by omega)]
    rw [List.drop_eq_getElem_cons h1, List.drop_eq_getElem_cons h2]
    cases hq : eqL a[i] b[i] with
    | false =>
      rw [hq] at start
      refine ⟨false, start _ (Ev.const fun _ => by simp), ?_⟩
      simp only [Bool.false_eq_true, false_iff, List.cons.injEq, not_and]
      intro e
      rw [e, eqL_iff.2 rfl] at hq
      cases hq
    | true =>
      rw [hq] at start
      refine ⟨r, start _ (by simp only [Bool.not_true, Bool.false_eq_true, if_false]; exact hr), ?_⟩
      rw [hc, List.cons.injEq]
      exact ⟨fun h => ⟨eqL_iff.1 hq, h⟩, fun h => h.2⟩
theorem sameL_any (a b : List S27) (hm : a.length < 9223372036854775807) : ∃ r, Ev (fun k => folkmootref05_Same.f k a b) r ∧ (r = true ↔ a = b) := by
  unfold folkmootref05_Same.f
  by_cases hl : a.length = b.length
  · obtain ⟨r, hr, hc⟩ := sameLs_any a b hl hm a.length 0 rfl (Nat.zero_le _)
    refine ⟨r, ?_, by simpa using hc⟩
    have c1 : (a.length : Int) = (b.length : Int) := by omega
    simp only [c1, if_true]
    exact hr
  · refine ⟨false, ?_, ?_⟩
    · have c1 : ¬ (a.length : Int) = (b.length : Int) := by omega
      simp only [c1, if_false]
      exact Ev.const fun _ => rfl
    · simp only [Bool.false_eq_true, false_iff]
      intro e
      rw [e] at hl
      exact hl rfl
theorem alike_any (s t : S53) (h0 : s.f0.length < 9223372036854775807) (h1 : s.f1.length < 9223372036854775807) (hs : ∀ e ∈ s.f0, Byt e.f1) (ht : ∀ e ∈ t.f0, Byt e.f1) : ∃ r, Ev (fun k => folkmootref15_Alike.f k s.f0 s.f1 s.f2 s.f3.f0 s.f3.f1 t.f0 t.f1 t.f2 t.f3.f0 t.f3.f1) r ∧ (r = true ↔ s = t) := by
  obtain ⟨r1, e1, c1⟩ := sameE_any s.f0 t.f0 h0 hs ht
  obtain ⟨r2, e2, c2⟩ := sameL_any s.f1 t.f1 h1
  have fin : s = t ↔ (s.f0 = t.f0 ∧ s.f1 = t.f1 ∧ s.f2 = t.f2 ∧ s.f3.f0 = t.f3.f0 ∧ s.f3.f1 = t.f3.f1) := by
    constructor
    · rintro rfl
      exact ⟨rfl, rfl, rfl, rfl, rfl⟩
    · rintro ⟨a, b, c, d, e⟩
      cases s with | mk s0 s1 s2 s3 => cases t with | mk t0 t1 t2 t3 => cases s3; cases t3; simp_all
  unfold folkmootref15_Alike.f
  cases r1 with
  | false =>
    refine ⟨false, Ev.bind e1 (Ev.const fun _ => by simp), ?_⟩
    rw [fin]
    simp only [Bool.false_eq_true, false_iff] at c1 ⊢
    exact fun h => c1 h.1
  | true =>
    cases r2 with
    | false =>
      refine ⟨false, Ev.bind e1 ?_, ?_⟩
      · simp only [if_true]
        exact Ev.bind e2 (Ev.const fun _ => by simp)
      · rw [fin]
        simp only [Bool.false_eq_true, false_iff] at c2 ⊢
        exact fun h => c2 h.2.1
    | true =>
      by_cases hn : s.f2 = t.f2
      · refine ⟨s.f3.f0 == t.f3.f0 && (s.f3.f1 == t.f3.f1), Ev.bind e1 ?_, ?_⟩
        · simp only [if_true]
          refine Ev.bind e2 ?_
          simp only [if_true, hn]
          exact Ev.const fun _ => rfl
        · rw [fin]
          simp only [Bool.and_eq_true, beq_iff_eq]
          exact ⟨fun h => ⟨c1.1 rfl, c2.1 rfl, hn, h⟩, fun h => h.2.2.2⟩
      · refine ⟨false, Ev.bind e1 ?_, ?_⟩
        · simp only [if_true]
          refine Ev.bind e2 ?_
          simp only [if_true, hn, if_false]
          exact Ev.const fun _ => rfl
        · rw [fin]
          simp only [Bool.false_eq_true, false_iff]
          exact fun h => hn h.2.2.1
theorem beq_of_iff {α : Type} [BEq α] [LawfulBEq α] {a b : α} {p : Prop} (h : a = b ↔ p) {r : Bool} (hr : r = true ↔ p) : (a == b) = r := by
  cases r with
  | true => exact beq_iff_eq.2 (h.2 (hr.1 rfl))
  | false =>
    cases hc : a == b with
    | false => rfl
    | true => exact absurd (hr.2 (h.1 (beq_iff_eq.1 hc))) (by simp)
theorem apart_last (x y : S32) (s t : S53) (hx : FormL x.f0 ∧ x.f1.length ≤ 64) (hy : FormL y.f0 ∧ y.f1.length ≤ 64) (hs : RightS s) (ht : RightS t) (bx : Byt x.f1) (bY : Byt y.f1) (bs : ∀ e ∈ s.f0, Byt e.f1) (bt : ∀ e ∈ t.f0, Byt e.f1)
    (l1 : s.f0.length ≤ 100) (l2 : s.f1.length ≤ 100) (l3 : t.f0.length ≤ 100) (l4 : t.f1.length ≤ 100) :
    Ev (fun k => folkmootlaw15_ContentApart.j0 k false x.f0.f0.f0 x.f0.f0.f1 x.f0.f1 x.f0.f2 x.f1 y.f0.f0.f0 y.f0.f0.f1 y.f0.f1 y.f0.f2 y.f1 s.f0 s.f1 s.f2 s.f3.f0 s.f3.f1 t.f0 t.f1 t.f2 t.f3.f0 t.f3.f1) true := by
  have hbx : Byt (1 :: entB x) := fun n hn => by
    rcases List.mem_cons.1 hn with rfl | hn
    · omega
    · exact entB_byt hx.1 bx n hn
  have hby : Byt (1 :: entB y) := fun n hn => by
    rcases List.mem_cons.1 hn with rfl | hn
    · omega
    · exact entB_byt hy.1 bY n hn
  have hbs := allB_byt hs bs
  have hbt := allB_byt ht bt
  have n1 : ¬ (strOfNums (1 :: entB x)).toList = (strOfNums (allB s)).toList := by
    rw [str_inj hbx hbs]
    unfold allB
    simp
  have i1 : (strOfNums (1 :: entB x)).toList = (strOfNums (1 :: entB y)).toList ↔ x = y := by
    rw [str_inj hbx hby]
    constructor
    · intro h
      simp only [List.cons.injEq, true_and] at h
      exact (entB_inj (p := []) (q := []) hx.1 hy.1 (by simpa using h)).1
    · rintro rfl
      rfl
  have i2 : (strOfNums (allB s)).toList = (strOfNums (allB t)).toList ↔ s = t := by
    rw [str_inj hbs hbt]
    exact ⟨allB_inj hs ht, fun h => by rw [h]⟩
  obtain ⟨r, hr, hc⟩ := alike_any s t (by omega) (by omega) bs bt
  have fin := beq_of_iff i2 hc
  refine Ev.step (fun k => by rw [folkmootlaw15_ContentApart.j0, if_neg (by simp)]) ?_
  refine Ev.bind (one_ev hx.1 hx.2) (Ev.bind (one_ev hy.1 hy.2) (Ev.bind (all_ev s hs (by omega) (by omega)) (Ev.bind (all_ev t ht (by omega) (by omega)) ?_)))
  simp only [if_true, n1, if_false, eqL_spell]
  cases hq : eqL x.f0 y.f0 with
  | true =>
    have h1 : ((strOfNums (1 :: entB x)).toList == (strOfNums (1 :: entB y)).toList) = ((strOfNums x.f1).toList == (strOfNums y.f1).toList) := by
      refine beq_of_iff i1 ?_
      rw [beq_iff_eq, str_inj bx bY]
      constructor
      · intro h
        have e1 := eqL_iff.1 hq
        cases x; cases y
        simp only at e1 h
        rw [e1, h]
      · rintro rfl
        rfl
    simp only [if_true, h1, beq_self_eq_true]
    refine Ev.bind hr (Ev.const fun _ => ?_)
    rw [fin, beq_self_eq_true]
  | false =>
    have h1 : ((strOfNums (1 :: entB x)).toList == (strOfNums (1 :: entB y)).toList) = false := by
      refine beq_of_iff i1 ?_
      simp only [Bool.false_eq_true, false_iff]
      rintro rfl
      rw [eqL_iff.2 rfl] at hq
      cases hq
    simp only [Bool.false_eq_true, if_false, h1, beq_self_eq_true, if_true]
    refine Ev.bind hr (Ev.const fun _ => ?_)
    rw [fin, beq_self_eq_true]
theorem pure_ContentApart (x y : S32) (s t : S53) (hx : rightE x) (hy : rightE y) (hs : rightS s) (ht : rightS t) :
    ∃ k, folkmootlaw15_ContentApart.f k x.f0.f0.f0 x.f0.f0.f1 x.f0.f1 x.f0.f2 x.f1 y.f0.f0.f0 y.f0.f0.f1 y.f0.f1 y.f0.f2 y.f1 s.f0 s.f1 s.f2 s.f3.f0 s.f3.f1 t.f0 t.f1 t.f2 t.f3.f0 t.f3.f1 = some true := by
  refine Ev.get ?_
  have aw : Ev (fun k => folkmootlaw15_ContentApart.j0 k true x.f0.f0.f0 x.f0.f0.f1 x.f0.f1 x.f0.f2 x.f1 y.f0.f0.f0 y.f0.f0.f1 y.f0.f1 y.f0.f2 y.f1 s.f0 s.f1 s.f2 s.f3.f0 s.f3.f1 t.f0 t.f1 t.f2 t.f3.f0 t.f3.f1) true :=
    Ev.step (fun k => by rw [folkmootlaw15_ContentApart.j0, if_pos rfl]) (Ev.const fun _ => by unfold folkmootlaw15_awake.f; rfl)
  unfold folkmootlaw15_ContentApart.f folkmootlaw15_awake.f
  have z0 := rightEs_len hs.1
  have z1 := rightLs_len hs.2.1
  have z2 := rightEs_len ht.1
  have z3 := rightLs_len ht.2.1
  have e1 : wrap64 ((s.f0.length : Int) + (s.f1.length : Int)) = (s.f0.length : Int) + (s.f1.length : Int) := by unfold wrap64; omega
  have e2 : wrap64 ((s.f0.length : Int) + (s.f1.length : Int) + (t.f0.length : Int)) = (s.f0.length : Int) + (s.f1.length : Int) + (t.f0.length : Int) := by unfold wrap64; omega
  have e3 : wrap64 ((s.f0.length : Int) + (s.f1.length : Int) + (t.f0.length : Int) + (t.f1.length : Int)) = (s.f0.length : Int) + (s.f1.length : Int) + (t.f0.length : Int) + (t.f1.length : Int) := by unfold wrap64; omega
  simp only [Option.bind_some, if_true, e1, e2, e3]
  by_cases hl : (s.f0.length : Int) + (s.f1.length : Int) + (t.f0.length : Int) + (t.f1.length : Int) > 100
  · simp only [hl, if_true]
    exact aw
  · simp only [hl, if_false]
    obtain ⟨b1, f1, g1⟩ := form_any x hx
    obtain ⟨b2, f2, g2⟩ := form_any y hy
    obtain ⟨b3, f3, g3⟩ := refRight_any s hs
    obtain ⟨b4, f4, g4⟩ := refRight_any t ht
    simp only [f1, f2, Option.bind_some]
    cases b1 with
    | false => simpa using aw
    | true =>
      simp only [if_true]
      cases b2 with
      | false => simpa using aw
      | true =>
        simp only [if_true]
        refine Ev.bind f3 ?_
        cases b3 with
        | false => simpa using aw
        | true =>
          simp only [if_true]
          refine Ev.bind f4 ?_
          cases b4 with
          | false => exact aw
          | true => exact apart_last x y s t (g1 rfl) (g2 rfl) (g3 rfl) (g4 rfl) (rightB_byt hx.2) (rightB_byt hy.2) (fun e he => rightB_byt (hs.1.2 e he).2) (fun e he => rightB_byt (ht.1.2 e he).2) (by omega) (by omega) (by omega) (by omega)
end Go.Proofs.Ytioooiflpabngaa.PAll
end
section
namespace Go.Proofs.Ytioooiflpabngaa
theorem head_signs : Try.prog.initOrder.toList = [104, 97, 114, 110, 101, 115, 115, 32, 98, 100, 54, 52, 55, 100, 48, 52, 56, 99, 56, 57, 55, 50, 49, 57, 98, 52, 100, 49, 52, 51, 55, 98, 57, 48, 102, 102, 48, 56, 49, 50, 49, 53, 100, 52, 49, 53, 51, 54, 99, 100, 49, 54, 52, 54, 49, 100, 52, 97, 49, 97, 54, 54, 102, 52, 101, 56, 53, 55, 97, 101, 50, 55, 32, 99, 117, 116, 32, 97, 116, 32, 102, 111, 108, 107, 109, 111, 111, 116, 47, 102, 111, 108, 107, 109, 111, 111, 116, 108, 97, 119, 49, 53, 46, 67, 111, 110, 116, 101, 110, 116, 70, 105, 110, 100, 115, 32, 102, 111, 108, 107, 109, 111, 111, 116, 47, 102, 111, 108, 107, 109, 111, 111, 116, 108, 97, 119, 49, 53, 46, 67, 111, 110, 116, 101, 110, 116, 75, 101, 101, 112, 115, 32, 102, 111, 108, 107, 109, 111, 111, 116, 47, 102, 111, 108, 107, 109, 111, 111, 116, 108, 97, 119, 49, 53, 46, 67, 111, 110, 116, 101, 110, 116, 77, 101, 114, 103, 101, 115, 32, 102, 111, 108, 107, 109, 111, 111, 116, 47, 102, 111, 108, 107, 109, 111, 111, 116, 108, 97, 119, 49, 53, 46, 67, 111, 110, 116, 101, 110, 116, 79, 114, 100, 101, 114, 32, 102, 111, 108, 107, 109, 111, 111, 116, 47, 102, 111, 108, 107, 109, 111, 111, 116, 108, 97, 119, 48, 53, 46, 76, 97, 98, 101, 108, 75, 101, 101, 112, 115, 32, 102, 111, 108, 107, 109, 111, 111, 116, 47, 102, 111, 108, 107, 109, 111, 111, 116, 108, 97, 119, 48, 53, 46, 76, 97, 98, 101, 108, 80, 97, 114, 116, 115, 32, 102, 111, 108, 107, 109, 111, 111, 116, 47, 102, 111, 108, 107, 109, 111, 111, 116, 108, 97, 119, 48, 53, 46, 76, 97, 98, 101, 108, 83, 111, 114, 116, 115, 32, 102, 111, 108, 107, 109, 111, 111, 116, 47, 102, 111, 108, 107, 109, 111, 111, 116, 108, 97, 119, 48, 53, 46, 76, 97, 98, 101, 108, 66, 101, 104, 105, 110, 100, 32, 102, 111, 108, 107, 109, 111, 111, 116, 47, 102, 111, 108, 107, 109, 111, 111, 116, 108, 97, 119, 48, 53, 46, 76, 97, 98, 101, 108, 79, 114, 100, 101, 114, 32, 102, 111, 108, 107, 109, 111, 111, 116, 47, 102, 111, 108, 107, 109, 111, 111, 116, 108, 97, 119, 49, 53, 46, 67, 111, 110, 116, 101, 110, 116, 65, 112, 97, 114, 116, 32, 102, 111, 108, 107, 109, 111, 111, 116, 47, 102, 111, 108, 107, 109, 111, 111, 116, 108, 97, 119, 49, 53, 46, 67, 111, 110, 116, 101, 110, 116, 79, 110, 101, 32, 102, 111, 108, 107, 109, 111, 111, 116, 47, 102, 111, 108, 107, 109, 111, 111, 116, 108, 97, 119, 49, 53, 46, 67, 111, 110, 116, 101, 110, 116, 82, 101, 97, 100, 115, 32, 102, 111, 108, 107, 109, 111, 111, 116, 47, 102, 111, 108, 107, 109, 111, 111, 116, 108, 97, 119, 49, 53, 46, 67, 111, 110, 116, 101, 110, 116, 65, 108, 108, 32, 102, 111, 108, 107, 109, 111, 111, 116, 47, 102, 111, 108, 107, 109, 111, 111, 116, 108, 97, 119, 49, 54, 46, 69, 120, 99, 104, 97, 110, 103, 101, 80, 108, 97, 121, 115, 32, 102, 111, 108, 107, 109, 111, 111, 116, 47, 102, 111, 108, 107, 109, 111, 111, 116, 108, 97, 119, 49, 54, 46, 69, 120, 99, 104, 97, 110, 103, 101, 84, 117, 114, 110, 101, 100, 32, 102, 111, 108, 107, 109, 111, 111, 116, 47, 102, 111, 108, 107, 109, 111, 111, 116, 108, 97, 119, 49, 54, 46, 69, 120, 99, 104, 97, 110, 103, 101, 70, 117, 108, 108, 32, 102, 111, 108, 107, 109, 111, 111, 116, 47, 102, 111, 108, 107, 109, 111, 111, 116, 108, 97, 119, 49, 54, 46, 69, 120, 99, 104, 97, 110, 103, 101, 75, 101, 101, 112, 115, 32, 102, 111, 108, 107, 109, 111, 111, 116, 47, 102, 111, 108, 107, 109, 111, 111, 116, 108, 97, 119, 49, 54, 46, 69, 120, 99, 104, 97, 110, 103, 101, 79, 110, 101, 32, 102, 111, 108, 107, 109, 111, 111, 116, 47, 102, 111, 108, 107, 109, 111, 111, 116, 108, 97, 119, 49, 54, 46, 69, 120, 99, 104, 97, 110, 103, 101, 77, 111, 114, 101].map Char.ofNat := by
  have h : Try.prog.initOrder = String.ofList ([104, 97, 114, 110, 101, 115, 115, 32, 98, 100, 54, 52, 55, 100, 48, 52, 56, 99, 56, 57, 55, 50, 49, 57, 98, 52, 100, 49, 52, 51, 55, 98, 57, 48, 102, 102, 48, 56, 49, 50, 49, 53, 100, 52, 49, 53, 51, 54, 99, 100, 49, 54, 52, 54, 49, 100, 52, 97, 49, 97, 54, 54, 102, 52, 101, 56, 53, 55, 97, 101, 50, 55, 32, 99, 117, 116, 32, 97, 116, 32, 102, 111, 108, 107, 109, 111, 111, 116, 47, 102, 111, 108, 107, 109, 111, 111, 116, 108, 97, 119, 49, 53, 46, 67, 111, 110, 116, 101, 110, 116, 70, 105, 110, 100, 115, 32, 102, 111, 108, 107, 109, 111, 111, 116, 47, 102, 111, 108, 107, 109, 111, 111, 116, 108, 97, 119, 49, 53, 46, 67, 111, 110, 116, 101, 110, 116, 75, 101, 101, 112, 115, 32, 102, 111, 108, 107, 109, 111, 111, 116, 47, 102, 111, 108, 107, 109, 111, 111, 116, 108, 97, 119, 49, 53, 46, 67, 111, 110, 116, 101, 110, 116, 77, 101, 114, 103, 101, 115, 32, 102, 111, 108, 107, 109, 111, 111, 116, 47, 102, 111, 108, 107, 109, 111, 111, 116, 108, 97, 119, 49, 53, 46, 67, 111, 110, 116, 101, 110, 116, 79, 114, 100, 101, 114, 32, 102, 111, 108, 107, 109, 111, 111, 116, 47, 102, 111, 108, 107, 109, 111, 111, 116, 108, 97, 119, 48, 53, 46, 76, 97, 98, 101, 108, 75, 101, 101, 112, 115, 32, 102, 111, 108, 107, 109, 111, 111, 116, 47, 102, 111, 108, 107, 109, 111, 111, 116, 108, 97, 119, 48, 53, 46, 76, 97, 98, 101, 108, 80, 97, 114, 116, 115, 32, 102, 111, 108, 107, 109, 111, 111, 116, 47, 102, 111, 108, 107, 109, 111, 111, 116, 108, 97, 119, 48, 53, 46, 76, 97, 98, 101, 108, 83, 111, 114, 116, 115, 32, 102, 111, 108, 107, 109, 111, 111, 116, 47, 102, 111, 108, 107, 109, 111, 111, 116, 108, 97, 119, 48, 53, 46, 76, 97, 98, 101, 108, 66, 101, 104, 105, 110, 100, 32, 102, 111, 108, 107, 109, 111, 111, 116, 47, 102, 111, 108, 107, 109, 111, 111, 116, 108, 97, 119, 48, 53, 46, 76, 97, 98, 101, 108, 79, 114, 100, 101, 114, 32, 102, 111, 108, 107, 109, 111, 111, 116, 47, 102, 111, 108, 107, 109, 111, 111, 116, 108, 97, 119, 49, 53, 46, 67, 111, 110, 116, 101, 110, 116, 65, 112, 97, 114, 116, 32, 102, 111, 108, 107, 109, 111, 111, 116, 47, 102, 111, 108, 107, 109, 111, 111, 116, 108, 97, 119, 49, 53, 46, 67, 111, 110, 116, 101, 110, 116, 79, 110, 101, 32, 102, 111, 108, 107, 109, 111, 111, 116, 47, 102, 111, 108, 107, 109, 111, 111, 116, 108, 97, 119, 49, 53, 46, 67, 111, 110, 116, 101, 110, 116, 82, 101, 97, 100, 115, 32, 102, 111, 108, 107, 109, 111, 111, 116, 47, 102, 111, 108, 107, 109, 111, 111, 116, 108, 97, 119, 49, 53, 46, 67, 111, 110, 116, 101, 110, 116, 65, 108, 108, 32, 102, 111, 108, 107, 109, 111, 111, 116, 47, 102, 111, 108, 107, 109, 111, 111, 116, 108, 97, 119, 49, 54, 46, 69, 120, 99, 104, 97, 110, 103, 101, 80, 108, 97, 121, 115, 32, 102, 111, 108, 107, 109, 111, 111, 116, 47, 102, 111, 108, 107, 109, 111, 111, 116, 108, 97, 119, 49, 54, 46, 69, 120, 99, 104, 97, 110, 103, 101, 84, 117, 114, 110, 101, 100, 32, 102, 111, 108, 107, 109, 111, 111, 116, 47, 102, 111, 108, 107, 109, 111, 111, 116, 108, 97, 119, 49, 54, 46, 69, 120, 99, 104, 97, 110, 103, 101, 70, 117, 108, 108, 32, 102, 111, 108, 107, 109, 111, 111, 116, 47, 102, 111, 108, 107, 109, 111, 111, 116, 108, 97, 119, 49, 54, 46, 69, 120, 99, 104, 97, 110, 103, 101, 75, 101, 101, 112, 115, 32, 102, 111, 108, 107, 109, 111, 111, 116, 47, 102, 111, 108, 107, 109, 111, 111, 116, 108, 97, 119, 49, 54, 46, 69, 120, 99, 104, 97, 110, 103, 101, 79, 110, 101, 32, 102, 111, 108, 107, 109, 111, 111, 116, 47, 102, 111, 108, 107, 109, 111, 111, 116, 108, 97, 119, 49, 54, 46, 69, 120, 99, 104, 97, 110, 103, 101, 77, 111, 114, 101].map Char.ofNat) := by kernel_rfl
  rw [h, String.toList_ofList]
theorem head_words : wordsSigns ([104, 97, 114, 110, 101, 115, 115, 32, 98, 100, 54, 52, 55, 100, 48, 52, 56, 99, 56, 57, 55, 50, 49, 57, 98, 52, 100, 49, 52, 51, 55, 98, 57, 48, 102, 102, 48, 56, 49, 50, 49, 53, 100, 52, 49, 53, 51, 54, 99, 100, 49, 54, 52, 54, 49, 100, 52, 97, 49, 97, 54, 54, 102, 52, 101, 56, 53, 55, 97, 101, 50, 55, 32, 99, 117, 116, 32, 97, 116, 32, 102, 111, 108, 107, 109, 111, 111, 116, 47, 102, 111, 108, 107, 109, 111, 111, 116, 108, 97, 119, 49, 53, 46, 67, 111, 110, 116, 101, 110, 116, 70, 105, 110, 100, 115, 32, 102, 111, 108, 107, 109, 111, 111, 116, 47, 102, 111, 108, 107, 109, 111, 111, 116, 108, 97, 119, 49, 53, 46, 67, 111, 110, 116, 101, 110, 116, 75, 101, 101, 112, 115, 32, 102, 111, 108, 107, 109, 111, 111, 116, 47, 102, 111, 108, 107, 109, 111, 111, 116, 108, 97, 119, 49, 53, 46, 67, 111, 110, 116, 101, 110, 116, 77, 101, 114, 103, 101, 115, 32, 102, 111, 108, 107, 109, 111, 111, 116, 47, 102, 111, 108, 107, 109, 111, 111, 116, 108, 97, 119, 49, 53, 46, 67, 111, 110, 116, 101, 110, 116, 79, 114, 100, 101, 114, 32, 102, 111, 108, 107, 109, 111, 111, 116, 47, 102, 111, 108, 107, 109, 111, 111, 116, 108, 97, 119, 48, 53, 46, 76, 97, 98, 101, 108, 75, 101, 101, 112, 115, 32, 102, 111, 108, 107, 109, 111, 111, 116, 47, 102, 111, 108, 107, 109, 111, 111, 116, 108, 97, 119, 48, 53, 46, 76, 97, 98, 101, 108, 80, 97, 114, 116, 115, 32, 102, 111, 108, 107, 109, 111, 111, 116, 47, 102, 111, 108, 107, 109, 111, 111, 116, 108, 97, 119, 48, 53, 46, 76, 97, 98, 101, 108, 83, 111, 114, 116, 115, 32, 102, 111, 108, 107, 109, 111, 111, 116, 47, 102, 111, 108, 107, 109, 111, 111, 116, 108, 97, 119, 48, 53, 46, 76, 97, 98, 101, 108, 66, 101, 104, 105, 110, 100, 32, 102, 111, 108, 107, 109, 111, 111, 116, 47, 102, 111, 108, 107, 109, 111, 111, 116, 108, 97, 119, 48, 53, 46, 76, 97, 98, 101, 108, 79, 114, 100, 101, 114, 32, 102, 111, 108, 107, 109, 111, 111, 116, 47, 102, 111, 108, 107, 109, 111, 111, 116, 108, 97, 119, 49, 53, 46, 67, 111, 110, 116, 101, 110, 116, 65, 112, 97, 114, 116, 32, 102, 111, 108, 107, 109, 111, 111, 116, 47, 102, 111, 108, 107, 109, 111, 111, 116, 108, 97, 119, 49, 53, 46, 67, 111, 110, 116, 101, 110, 116, 79, 110, 101, 32, 102, 111, 108, 107, 109, 111, 111, 116, 47, 102, 111, 108, 107, 109, 111, 111, 116, 108, 97, 119, 49, 53, 46, 67, 111, 110, 116, 101, 110, 116, 82, 101, 97, 100, 115, 32, 102, 111, 108, 107, 109, 111, 111, 116, 47, 102, 111, 108, 107, 109, 111, 111, 116, 108, 97, 119, 49, 53, 46, 67, 111, 110, 116, 101, 110, 116, 65, 108, 108, 32, 102, 111, 108, 107, 109, 111, 111, 116, 47, 102, 111, 108, 107, 109, 111, 111, 116, 108, 97, 119, 49, 54, 46, 69, 120, 99, 104, 97, 110, 103, 101, 80, 108, 97, 121, 115, 32, 102, 111, 108, 107, 109, 111, 111, 116, 47, 102, 111, 108, 107, 109, 111, 111, 116, 108, 97, 119, 49, 54, 46, 69, 120, 99, 104, 97, 110, 103, 101, 84, 117, 114, 110, 101, 100, 32, 102, 111, 108, 107, 109, 111, 111, 116, 47, 102, 111, 108, 107, 109, 111, 111, 116, 108, 97, 119, 49, 54, 46, 69, 120, 99, 104, 97, 110, 103, 101, 70, 117, 108, 108, 32, 102, 111, 108, 107, 109, 111, 111, 116, 47, 102, 111, 108, 107, 109, 111, 111, 116, 108, 97, 119, 49, 54, 46, 69, 120, 99, 104, 97, 110, 103, 101, 75, 101, 101, 112, 115, 32, 102, 111, 108, 107, 109, 111, 111, 116, 47, 102, 111, 108, 107, 109, 111, 111, 116, 108, 97, 119, 49, 54, 46, 69, 120, 99, 104, 97, 110, 103, 101, 79, 110, 101, 32, 102, 111, 108, 107, 109, 111, 111, 116, 47, 102, 111, 108, 107, 109, 111, 111, 116, 108, 97, 119, 49, 54, 46, 69, 120, 99, 104, 97, 110, 103, 101, 77, 111, 114, 101].map Char.ofNat) = [[104, 97, 114, 110, 101, 115, 115], [98, 100, 54, 52, 55, 100, 48, 52, 56, 99, 56, 57, 55, 50, 49, 57, 98, 52, 100, 49, 52, 51, 55, 98, 57, 48, 102, 102, 48, 56, 49, 50, 49, 53, 100, 52, 49, 53, 51, 54, 99, 100, 49, 54, 52, 54, 49, 100, 52, 97, 49, 97, 54, 54, 102, 52, 101, 56, 53, 55, 97, 101, 50, 55], [99, 117, 116], [97, 116], [102, 111, 108, 107, 109, 111, 111, 116, 47, 102, 111, 108, 107, 109, 111, 111, 116, 108, 97, 119, 49, 53, 46, 67, 111, 110, 116, 101, 110, 116, 70, 105, 110, 100, 115], [102, 111, 108, 107, 109, 111, 111, 116, 47, 102, 111, 108, 107, 109, 111, 111, 116, 108, 97, 119, 49, 53, 46, 67, 111, 110, 116, 101, 110, 116, 75, 101, 101, 112, 115], [102, 111, 108, 107, 109, 111, 111, 116, 47, 102, 111, 108, 107, 109, 111, 111, 116, 108, 97, 119, 49, 53, 46, 67, 111, 110, 116, 101, 110, 116, 77, 101, 114, 103, 101, 115], [102, 111, 108, 107, 109, 111, 111, 116, 47, 102, 111, 108, 107, 109, 111, 111, 116, 108, 97, 119, 49, 53, 46, 67, 111, 110, 116, 101, 110, 116, 79, 114, 100, 101, 114], [102, 111, 108, 107, 109, 111, 111, 116, 47, 102, 111, 108, 107, 109, 111, 111, 116, 108, 97, 119, 48, 53, 46, 76, 97, 98, 101, 108, 75, 101, 101, 112, 115], [102, 111, 108, 107, 109, 111, 111, 116, 47, 102, 111, 108, 107, 109, 111, 111, 116, 108, 97, 119, 48, 53, 46, 76, 97, 98, 101, 108, 80, 97, 114, 116, 115], [102, 111, 108, 107, 109, 111, 111, 116, 47, 102, 111, 108, 107, 109, 111, 111, 116, 108, 97, 119, 48, 53, 46, 76, 97, 98, 101, 108, 83, 111, 114, 116, 115], [102, 111, 108, 107, 109, 111, 111, 116, 47, 102, 111, 108, 107, 109, 111, 111, 116, 108, 97, 119, 48, 53, 46, 76, 97, 98, 101, 108, 66, 101, 104, 105, 110, 100], [102, 111, 108, 107, 109, 111, 111, 116, 47, 102, 111, 108, 107, 109, 111, 111, 116, 108, 97, 119, 48, 53, 46, 76, 97, 98, 101, 108, 79, 114, 100, 101, 114], [102, 111, 108, 107, 109, 111, 111, 116, 47, 102, 111, 108, 107, 109, 111, 111, 116, 108, 97, 119, 49, 53, 46, 67, 111, 110, 116, 101, 110, 116, 65, 112, 97, 114, 116], [102, 111, 108, 107, 109, 111, 111, 116, 47, 102, 111, 108, 107, 109, 111, 111, 116, 108, 97, 119, 49, 53, 46, 67, 111, 110, 116, 101, 110, 116, 79, 110, 101], [102, 111, 108, 107, 109, 111, 111, 116, 47, 102, 111, 108, 107, 109, 111, 111, 116, 108, 97, 119, 49, 53, 46, 67, 111, 110, 116, 101, 110, 116, 82, 101, 97, 100, 115], [102, 111, 108, 107, 109, 111, 111, 116, 47, 102, 111, 108, 107, 109, 111, 111, 116, 108, 97, 119, 49, 53, 46, 67, 111, 110, 116, 101, 110, 116, 65, 108, 108], [102, 111, 108, 107, 109, 111, 111, 116, 47, 102, 111, 108, 107, 109, 111, 111, 116, 108, 97, 119, 49, 54, 46, 69, 120, 99, 104, 97, 110, 103, 101, 80, 108, 97, 121, 115], [102, 111, 108, 107, 109, 111, 111, 116, 47, 102, 111, 108, 107, 109, 111, 111, 116, 108, 97, 119, 49, 54, 46, 69, 120, 99, 104, 97, 110, 103, 101, 84, 117, 114, 110, 101, 100], [102, 111, 108, 107, 109, 111, 111, 116, 47, 102, 111, 108, 107, 109, 111, 111, 116, 108, 97, 119, 49, 54, 46, 69, 120, 99, 104, 97, 110, 103, 101, 70, 117, 108, 108], [102, 111, 108, 107, 109, 111, 111, 116, 47, 102, 111, 108, 107, 109, 111, 111, 116, 108, 97, 119, 49, 54, 46, 69, 120, 99, 104, 97, 110, 103, 101, 75, 101, 101, 112, 115], [102, 111, 108, 107, 109, 111, 111, 116, 47, 102, 111, 108, 107, 109, 111, 111, 116, 108, 97, 119, 49, 54, 46, 69, 120, 99, 104, 97, 110, 103, 101, 79, 110, 101], [102, 111, 108, 107, 109, 111, 111, 116, 47, 102, 111, 108, 107, 109, 111, 111, 116, 108, 97, 119, 49, 54, 46, 69, 120, 99, 104, 97, 110, 103, 101, 77, 111, 114, 101]].map (List.map Char.ofNat) := by kernel_rfl
theorem head_behind : ∃ rest, behindMainWord (wordsSigns Try.prog.initOrder.toList) = [99, 117, 116].map Char.ofNat :: rest := by
  rw [head_signs, head_words]
  exact ⟨[[99, 117, 116], [97, 116], [102, 111, 108, 107, 109, 111, 111, 116, 47, 102, 111, 108, 107, 109, 111, 111, 116, 108, 97, 119, 49, 53, 46, 67, 111, 110, 116, 101, 110, 116, 70, 105, 110, 100, 115], [102, 111, 108, 107, 109, 111, 111, 116, 47, 102, 111, 108, 107, 109, 111, 111, 116, 108, 97, 119, 49, 53, 46, 67, 111, 110, 116, 101, 110, 116, 75, 101, 101, 112, 115], [102, 111, 108, 107, 109, 111, 111, 116, 47, 102, 111, 108, 107, 109, 111, 111, 116, 108, 97, 119, 49, 53, 46, 67, 111, 110, 116, 101, 110, 116, 77, 101, 114, 103, 101, 115], [102, 111, 108, 107, 109, 111, 111, 116, 47, 102, 111, 108, 107, 109, 111, 111, 116, 108, 97, 119, 49, 53, 46, 67, 111, 110, 116, 101, 110, 116, 79, 114, 100, 101, 114], [102, 111, 108, 107, 109, 111, 111, 116, 47, 102, 111, 108, 107, 109, 111, 111, 116, 108, 97, 119, 48, 53, 46, 76, 97, 98, 101, 108, 75, 101, 101, 112, 115], [102, 111, 108, 107, 109, 111, 111, 116, 47, 102, 111, 108, 107, 109, 111, 111, 116, 108, 97, 119, 48, 53, 46, 76, 97, 98, 101, 108, 80, 97, 114, 116, 115], [102, 111, 108, 107, 109, 111, 111, 116, 47, 102, 111, 108, 107, 109, 111, 111, 116, 108, 97, 119, 48, 53, 46, 76, 97, 98, 101, 108, 83, 111, 114, 116, 115], [102, 111, 108, 107, 109, 111, 111, 116, 47, 102, 111, 108, 107, 109, 111, 111, 116, 108, 97, 119, 48, 53, 46, 76, 97, 98, 101, 108, 66, 101, 104, 105, 110, 100], [102, 111, 108, 107, 109, 111, 111, 116, 47, 102, 111, 108, 107, 109, 111, 111, 116, 108, 97, 119, 48, 53, 46, 76, 97, 98, 101, 108, 79, 114, 100, 101, 114], [102, 111, 108, 107, 109, 111, 111, 116, 47, 102, 111, 108, 107, 109, 111, 111, 116, 108, 97, 119, 49, 53, 46, 67, 111, 110, 116, 101, 110, 116, 65, 112, 97, 114, 116], [102, 111, 108, 107, 109, 111, 111, 116, 47, 102, 111, 108, 107, 109, 111, 111, 116, 108, 97, 119, 49, 53, 46, 67, 111, 110, 116, 101, 110, 116, 79, 110, 101], [102, 111, 108, 107, 109, 111, 111, 116, 47, 102, 111, 108, 107, 109, 111, 111, 116, 108, 97, 119, 49, 53, 46, 67, 111, 110, 116, 101, 110, 116, 82, 101, 97, 100, 115], [102, 111, 108, 107, 109, 111, 111, 116, 47, 102, 111, 108, 107, 109, 111, 111, 116, 108, 97, 119, 49, 53, 46, 67, 111, 110, 116, 101, 110, 116, 65, 108, 108], [102, 111, 108, 107, 109, 111, 111, 116, 47, 102, 111, 108, 107, 109, 111, 111, 116, 108, 97, 119, 49, 54, 46, 69, 120, 99, 104, 97, 110, 103, 101, 80, 108, 97, 121, 115], [102, 111, 108, 107, 109, 111, 111, 116, 47, 102, 111, 108, 107, 109, 111, 111, 116, 108, 97, 119, 49, 54, 46, 69, 120, 99, 104, 97, 110, 103, 101, 84, 117, 114, 110, 101, 100], [102, 111, 108, 107, 109, 111, 111, 116, 47, 102, 111, 108, 107, 109, 111, 111, 116, 108, 97, 119, 49, 54, 46, 69, 120, 99, 104, 97, 110, 103, 101, 70, 117, 108, 108], [102, 111, 108, 107, 109, 111, 111, 116, 47, 102, 111, 108, 107, 109, 111, 111, 116, 108, 97, 119, 49, 54, 46, 69, 120, 99, 104, 97, 110, 103, 101, 75, 101, 101, 112, 115], [102, 111, 108, 107, 109, 111, 111, 116, 47, 102, 111, 108, 107, 109, 111, 111, 116, 108, 97, 119, 49, 54, 46, 69, 120, 99, 104, 97, 110, 103, 101, 79, 110, 101], [102, 111, 108, 107, 109, 111, 111, 116, 47, 102, 111, 108, 107, 109, 111, 111, 116, 108, 97, 119, 49, 54, 46, 69, 120, 99, 104, 97, 110, 103, 101, 77, 111, 114, 101]].tail.map (List.map Char.ofNat), by kernel_rfl⟩
theorem cut_gc : (([99, 117, 116].map Char.ofNat) == "gc".toList) = false := by kernel_rfl
theorem cut_spec : (([99, 117, 116].map Char.ofNat) == "spec".toList) = false := by kernel_rfl
theorem cut_carried : (([99, 117, 116].map Char.ofNat) == "carried".toList) = false := by kernel_rfl
theorem cut_cut : (([99, 117, 116].map Char.ofNat) == "cut".toList) = true := by kernel_rfl
theorem cut_some (rest : List (List Char)) : ((([99, 117, 116].map Char.ofNat) :: rest).head? == some "cut".toList) = true := cut_cut
theorem cut_strip (rest : List (List Char)) : stripLifts liftWords (([99, 117, 116].map Char.ofNat) :: rest) = ([], ([99, 117, 116].map Char.ofNat) :: rest) := by
  simp only [liftWords, stripLifts]
  rfl
theorem make_of {P : Program} {rest : List (List Char)} (h : behindMainWord (wordsSigns P.initOrder.toList) = [99, 117, 116].map Char.ofNat :: rest) : P.make = some .cut := by
  unfold Program.make
  rw [h]
  simp only [cut_gc, cut_spec, cut_cut, Bool.or_false, Bool.true_or, Bool.false_eq_true, if_false, if_true]
theorem lifts_of {P : Program} {rest : List (List Char)} (h : behindMainWord (wordsSigns P.initOrder.toList) = [99, 117, 116].map Char.ofNat :: rest) : P.liftsFinal = false := by
  unfold Program.liftsFinal Program.headLifts
  rw [h]
  simp only [cut_strip, List.head?_cons]
  show ((([99, 117, 116].map Char.ofNat) == "carried".toList) && _ || _) = false
  rw [cut_carried]
  kernel_rfl
theorem enter_of {P : Program} {rest : List (List Char)} (h : behindMainWord (wordsSigns P.initOrder.toList) = [99, 117, 116].map Char.ofNat :: rest) (h1 : P.laysLater = false) (h2 : P.bearsReflect = false) (h3 : P.doorFits [] = true) : P.mayEnter = true := by
  unfold Program.mayEnter
  rw [h]
  simp only [cut_strip, cut_some, cut_gc, cut_spec, cut_carried, h1, h2, h3, Bool.not_false, Bool.or_true, Bool.and_true, Bool.or_false, Bool.false_and, List.contains_nil]
theorem head_make : Try.prog.make = some .cut := head_behind.elim fun _ h => make_of h
theorem head_lifts : Try.prog.liftsFinal = false := head_behind.elim fun _ h => lifts_of h
theorem head_enter : Try.prog.mayEnter = true := head_behind.elim fun _ h => enter_of h (by kernel_rfl) (by kernel_rfl) (by kernel_rfl)
end Go.Proofs.Ytioooiflpabngaa
end
section
namespace Go.Proofs.Ytioooiflpabngaa.contentApart
open Go.ChangeShapes Go.WideShapes Go.ChangeAt Go.RowKit Go.Proofs.Ytioooiflpabngaa.PAll
set_option linter.unusedVariables false
theorem own : ownKnob Try.prog.godebug = none := by kernel_rfl
theorem laidOut : laidOutB Try.prog = true := by kernel_rfl
set_option maxRecDepth 100000 in
theorem lifted (os : Os) (started : os.Started) (H : Type) (enc : TypeId × Value → H) :
    ReturnsInHanded {} Try.checked os 12 .any (Rows.contentApartSpec.pre6 enc Try.prog Try.f12 Rows.contentApartRow.domain false) (Rows.contentApartSpec.post enc Try.prog Try.f12 false true false false) := by
  refine returnsInHanded_of_change_sized (C := Try.checked) own started (by kernel_rfl) Try.func12
    (ChangeSpec.witness6 (enc := enc) (C := Try.checked) false ⟨#[], #[.agg #[.int .u64 0, .int .i64 0, .int .u64 0, .int .i64 0, .slice none 0 0], .agg #[.int .u64 0, .int .i64 0, .int .u64 0, .int .i64 0, .slice none 0 0], .agg #[.slice none 0 0, .slice none 0 0, .int .i64 0, .int .u64 0, .int .i64 0], .agg #[.slice none 0 0, .slice none 0 0, .int .i64 0, .int .u64 0, .int .i64 0]], []⟩ 8 (by kernel_rfl) (by kernel_rfl) (by kernel_rfl) (by kernel_rfl)) ?_
  intro W base args ds gs before hval0 hW hcnd hsz0 _
  have hsz : (DataW.weightsEach Try.prog (Try.f12.params.toList ++ Rows.contentApartSpec.plain.varTypes Try.prog) (ds ++ gs)).all (· ≤ reachBytes) = true := hsz0
  have hval : ∀ (j : Nat) t v, Try.f12.params[j]? = some t → args[j]? = some v → Value.okWide Try.prog W .any base t v := hval0
  have hW' := hW
  obtain ⟨p, q, hA0, hV, rfl, hfz, hnd⟩ := hW
  have hA : DataW.TrodAll enc Try.prog W 0 (fun _ => true) true Try.f12.params.toList args.toList ds p := hA0
  rw [Try.params12] at hA hval hsz
  obtain ⟨v0, vs0, d0, ds0, p0, q0, hargs, rfl, rfl, h0, r0⟩ := trodAll_cons hA
  obtain ⟨v1, vs1, d1, ds1, p1, q1, rfl, rfl, rfl, h1, r1⟩ := trodAll_cons r0
  obtain ⟨v2, vs2, d2, ds2, p2, q2, rfl, rfl, rfl, h2, r2⟩ := trodAll_cons r1
  obtain ⟨v3, vs3, d3, ds3, p3, q3, rfl, rfl, rfl, h3, r3⟩ := trodAll_cons r2
  obtain ⟨rfl, rfl, rfl⟩ := trodAll_nil r3
  obtain rfl : args = #[v0, v1, v2, v3] := by cases args; simp_all
  obtain ⟨rfl, rfl⟩ := trodVars_none hV
  have z0 : ∀ n ∈ d0.weights Try.prog 32, n ≤ reachBytes := fun n hn => of_decide_eq_true (List.all_eq_true.1 hsz _ (DataW.weights_mem_each (j := 0) (t := 32) rfl rfl n hn))
  have k0 := h0
  have lt0 : ∀ x ∈ p0, x.block < W.heap.size := by obtain ⟨m, hm⟩ := k0; exact DataW.trod_lt m _ _ _ hm
  obtain ⟨cs0, rfl, _⟩ := okWide_struct Try.underlying32 (hval 0 32 v0 rfl rfl)
  obtain ⟨x0, hK0, ok0⟩ := arg_trod opensE h0 z0
  obtain ⟨A0, c0, hcs0, hc0, hr0⟩ := k32_open hK0
  have e0 := agg_of hcs0
  subst e0
  have z1 : ∀ n ∈ d1.weights Try.prog 32, n ≤ reachBytes := fun n hn => of_decide_eq_true (List.all_eq_true.1 hsz _ (DataW.weights_mem_each (j := 1) (t := 32) rfl rfl n hn))
  have k1 := h1
  have lt1 : ∀ x ∈ p1, x.block < W.heap.size := by obtain ⟨m, hm⟩ := k1; exact DataW.trod_lt m _ _ _ hm
  obtain ⟨cs1, rfl, _⟩ := okWide_struct Try.underlying32 (hval 1 32 v1 rfl rfl)
  obtain ⟨x1, hK1, ok1⟩ := arg_trod opensE h1 z1
  obtain ⟨A1, c1, hcs1, hc1, hr1⟩ := k32_open hK1
  have e1 := agg_of hcs1
  subst e1
  have z2 : ∀ n ∈ d2.weights Try.prog 53, n ≤ reachBytes := fun n hn => of_decide_eq_true (List.all_eq_true.1 hsz _ (DataW.weights_mem_each (j := 2) (t := 53) rfl rfl n hn))
  have k2 := h2
  have lt2 : ∀ x ∈ p2, x.block < W.heap.size := by obtain ⟨m, hm⟩ := k2; exact DataW.trod_lt m _ _ _ hm
  obtain ⟨cs2, rfl, _⟩ := okWide_struct Try.underlying53 (hval 2 53 v2 rfl rfl)
  obtain ⟨x2, hK2, ok2⟩ := arg_trod opensS h2 z2
  obtain ⟨A2, c2, B2, b2, hcs2, hc2, hr2, hb2, hq2⟩ := k53_open hK2
  have e2 := agg_of hcs2
  subst e2
  have z3 : ∀ n ∈ d3.weights Try.prog 53, n ≤ reachBytes := fun n hn => of_decide_eq_true (List.all_eq_true.1 hsz _ (DataW.weights_mem_each (j := 3) (t := 53) rfl rfl n hn))
  have k3 := h3
  have lt3 : ∀ x ∈ p3, x.block < W.heap.size := by obtain ⟨m, hm⟩ := k3; exact DataW.trod_lt m _ _ _ hm
  obtain ⟨cs3, rfl, _⟩ := okWide_struct Try.underlying53 (hval 3 53 v3 rfl rfl)
  obtain ⟨x3, hK3, ok3⟩ := arg_trod opensS h3 z3
  obtain ⟨A3, c3, B3, b3, hcs3, hc3, hr3, hb3, hq3⟩ := k53_open hK3
  have e3 := agg_of hcs3
  subst e3
  clear hA0 hval0 hsz0 hsz
  obtain ⟨k, hp⟩ := pure_ContentApart x0 x1 x2 x3 ok0 ok1 ok2 ok3
  refine (folkmootlaw15_ContentApart.calls k x0.f0.f0.f0 x0.f0.f0.f1 x0.f0.f1 x0.f0.f2 _ _ x0.f1 x1.f0.f0.f0 x1.f0.f0.f1 x1.f0.f1 x1.f0.f2 _ _ x1.f1 _ _ x2.f0 _ _ x2.f1 x2.f2 x2.f3.f0 x2.f3.f1 _ _ x3.f0 _ _ x3.f1 x3.f2 x3.f3.f0 x3.f3.f1 true W hr0 hc0 hr1 hc1 hr2 hc2 hq2 hb2 hr3 hc3 hq3 hb3 hp).mono fun e W' ⟨he, bel⟩ => ?_
  subst he
  exact ⟨_, rfl, _, _, _, [], _, [], hW', trodAll_mk1 (shut_bool Try.underlying4 _), (trodAll_cons_mk (Below.trod laidOut (by kernel_rfl) (of_decide_eq_true (by kernel_rfl)) k0 bel lt0) (trodAll_cons_mk (Below.trod laidOut (by kernel_rfl) (of_decide_eq_true (by kernel_rfl)) k1 bel lt1) (trodAll_cons_mk (Below.trod laidOut (by kernel_rfl) (of_decide_eq_true (by kernel_rfl)) k2 bel lt2) (trodAll_cons_mk (Below.trod laidOut (by kernel_rfl) (of_decide_eq_true (by kernel_rfl)) k3 bel lt3) trodAll_mk0)))), rfl, bel.frame _, fun h => by cases h⟩
theorem closed : joinedFacts Try.prog 12 Try.f12 Rows.contentApartSpec Rows.contentApartRow = true := by
  unfold joinedFacts
  rw [head_enter, head_lifts, head_make]
  kernel_rfl
theorem over : Rows.contentApartRow.holds Try.pinned (OpenSpec.ofChange Rows.contentApartSpec) :=
  OpenClaim.holds_of_wide 12 Try.f12 rfl rfl rfl rfl rfl rfl rfl ⟨rfl, rfl, rfl, rfl, rfl⟩ rfl rfl rfl rfl rfl (by kernel_rfl) Try.func12 closed
    (of_decide_eq_true (by kernel_rfl)) (by unfold Func.isWrapper; first | (rw [if_pos (by decide +kernel)]; kernel_rfl) | (rw [if_neg (by decide +kernel)]; exact ⟨rfl, rfl⟩))
    (fun os started H enc _ => lifted os started H enc)
theorem proved : Rows.ContentApartSaid := over
end Go.Proofs.Ytioooiflpabngaa.contentApart
end
