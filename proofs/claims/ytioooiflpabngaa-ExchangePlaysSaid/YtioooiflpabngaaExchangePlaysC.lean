/- Parts: PAllx92, PAllx98, ETell, ELabels, PAllx37, PAllx38, PAllx41, ESort. -/
import Derived.Test.YtioooiflpabngaaExchangePlaysB
set_option linter.unusedVariables false
set_option linter.unusedSimpArgs false
section
namespace Go.Proofs.Ytioooiflpabngaa.PAll
open Go.RowKit Go.Proofs.YtioooiflpabngaaW.PrintWords Go.Proofs.YtioooiflpabngaaW.PrintLast Go.Proofs.YtioooiflpabngaaW.PrintMore
attribute [local go_sem] max2_int min2_int max_two min_two max_three min_three max_four min_four   -- for this text's walks alone
set_option linter.unusedVariables false
set_option linter.unusedSimpArgs false
attribute [local go_sem high] eqA25
def folkmootref16_Chosen.l0 : Nat → List Int → List (S53) → Int → Int → Option (Int)
 | 0, _, _, _, _ => none
 | k + 1, x0, x1, x5, x6 => if x6 < (x1.length : Int) then (if 0 ≤ x6 then ((folkmootref16_High.f k x1).bind fun bt793 => (if (((rd_T53 x1 x6).f3.f0) == bt793.1 && (((rd_T53 x1 x6).f3.f1) == bt793.2)) = true then (if x6 < (x0.length : Int) then (if (rd x0 x6) ≥ 0 then (if x5 < 0 then (folkmootref16_Chosen.l0 k x0 x1 x6 (wrap64 (x6 + 1))) else (if 0 ≤ x5 then (if x5 < (x0.length : Int) then (if (rd x0 x6) > (rd x0 x5) then (folkmootref16_Chosen.l0 k x0 x1 x6 (wrap64 (x6 + 1))) else (folkmootref16_Chosen.l0 k x0 x1 x5 (wrap64 (x6 + 1)))) else (none)) else (none))) else (folkmootref16_Chosen.l0 k x0 x1 x5 (wrap64 (x6 + 1)))) else (none)) else (folkmootref16_Chosen.l0 k x0 x1 x5 (wrap64 (x6 + 1))))) else (none)) else (some x5)
def folkmootref16_Chosen.f (k : Nat) (l0 : List Int) (l1 : List (S53)) : Option (Int) := folkmootref16_Chosen.l0 k l0 l1 (-1) 0
def folkmootref16_Chosen.T5 : Bool × List (List Nat × List Nat) := (true, [([], []), ([], []), ([0, 1], [0, 1]), ([2], [2]), ([3], [3]), ([], []), ([5], [5]), ([4, 6], [4, 6]), ([7, 6], [7]), ([8], [8]), ([8], [8]), ([9, 10, 8], [8, 9, 10]), ([11, 8], [8, 11]), ([12, 8], [8, 12]), ([8, 13], [8, 13]), ([14, 8], [14]), ([15], [15]), ([16, 15], [15, 16]), ([17, 15, 15], [15, 17]), ([18], [18]), ([18], [18]), ([19, 20, 18], [18, 19, 20]), ([21, 18], [18, 21]), ([18], [18]), ([18], [18]), ([23, 24, 18], [18, 23, 24]), ([25, 18], [18, 25]), ([22, 26, 18], [18, 22, 26]), ([18, 27, 15], [15, 18, 27]), ([15, 28], [15, 28])])
def folkmootref16_Chosen.B5 : List Nat := [0, 0, 3, 7, 15, 0, 32, 127, 255, 511, 511, 2047, 4095, 8191, 16383, 32767, 65535, 131071, 262143, 524287, 524287, 2097151, 4194303, 524287, 524287, 25690111, 59244543, 134217727, 268435455, 536870911]
theorem folkmootref16_Chosen.tab5 : rtab .any (opsOf Try.f58 5) = folkmootref16_Chosen.T5 := by kernel_rfl
theorem folkmootref16_Chosen.bits5 : waitsOk folkmootref16_Chosen.T5.2 folkmootref16_Chosen.B5 = true := by kernel_rfl
set_option maxHeartbeats 8000000 in
set_option maxRecDepth 100000 in
theorem folkmootref16_Chosen.calls (k : Nat) (A0 : Option Addr) (c0 : Nat) (l0 : List Int) (A1 : Option Addr) (c1 : Nat) (l1 : List (S53)) (r : Int) (w : World) (hr0 : Kd.C (Kd.int .i64) w A0 l0.length l0) (hc0 : l0.length ≤ c0) (hr1 : Kd.C k53 w A1 l1.length l1) (hc1 : l1.length ≤ c1) (h : folkmootref16_Chosen.f k l0 l1 = some r) :
  Calls Try.prog 58 #[.slice A0 l0.length c0, .slice A1 l1.length c1] w fun e w' => e = .returned (.int .i64 r) ∧ Below w.heap.size w w' := by
 have hu25 := Try.underlying25
 have HR0 := Aside0.mk hr0
 have HC0 := Aside0.mk hc0
 clear hr0 hc0
 have HR1 := Aside0.mk hr1
 have HC1 := Aside0.mk hc1
 clear hr1 hc1
 have HB := Aside0.mk (Below.refl w.heap.size w)
 have H : (folkmootref16_Chosen.l0 k l0 l1 (-1) 0) = some r := h
 clear h
 have H' := Aside0.mk H
 clear H
 go_enter Try.func58, Try.ntmps58
 go_wp2
 go_loopg [5, 6] k (fun kq v5 v6 w' => ∃ (x5_1 : Int) (x6_1 : Int), v5 = .int .i64 x5_1 ∧ v6 = .int .i64 x6_1 ∧ Aside0 (folkmootref16_Chosen.l0 kq l0 l1 x5_1 x6_1 = some r) ∧ Aside0 (kq ≤ k) ∧ Aside0 (Below w.heap.size w w'))
 case atStart => exact ⟨((-1)), (0), (by first | rfl | (simp; done) | (simp [*]; done)), (by first | rfl | (simp; done) | (simp [*]; done)), H', ⟨Nat.le_refl _⟩, ⟨by repeat (first | (with_reducible first | exact HB.out | apply below_alloc | apply pw_below_drewN | apply below_drew1) | exact HB.out)⟩⟩
 case round =>
  clear H'
  try clear c1
  try clear p2
  obtain ⟨x5_1, x6_1, rfl, rfl, HA, HK1, HB⟩ := hrel
  cases gk with
  | zero => exact absurd HA.out (by simp [folkmootref16_Chosen.l0])
  | succ k1 =>
   have H := HA.out
   clear HA
   simp only [folkmootref16_Chosen.l0] at H
   by_cases c3 : x6_1 < (l1.length : Int)
   ·
    rw [if_pos c3] at H
    have c3b0 : decide (x6_1 < (l1.length : Int)) = true := decide_eq_true c3
    clear c3
    by_cases c4 : 0 ≤ x6_1
    ·
     rw [if_pos c4] at H
     have c4b0 : decide (0 ≤ x6_1) = true := decide_eq_true c4
     clear c4
     replace H := Option.bind_eq_some_iff.mp H
     obtain ⟨⟨t793, t794⟩, A50, H⟩ := H
     replace H : (if (((rd_T53 l1 x6_1).f3.f0) == t793 && (((rd_T53 l1 x6_1).f3.f1) == t794)) = true then (if x6_1 < (l0.length : Int) then (if (rd l0 x6_1) ≥ 0 then (if x5_1 < 0 then (folkmootref16_Chosen.l0 k1 l0 l1 x6_1 (wrap64 (x6_1 + 1))) else (if 0 ≤ x5_1 then (if x5_1 < (l0.length : Int) then (if (rd l0 x6_1) > (rd l0 x5_1) then (folkmootref16_Chosen.l0 k1 l0 l1 x6_1 (wrap64 (x6_1 + 1))) else (folkmootref16_Chosen.l0 k1 l0 l1 x5_1 (wrap64 (x6_1 + 1)))) else (none)) else (none))) else (folkmootref16_Chosen.l0 k1 l0 l1 x5_1 (wrap64 (x6_1 + 1)))) else (none)) else (folkmootref16_Chosen.l0 k1 l0 l1 x5_1 (wrap64 (x6_1 + 1)))) = some r := H
     have A5 := Aside0.mk A50
     clear A50
     by_cases c6 : (((rd_T53 l1 x6_1).f3.f0) == t793 && (((rd_T53 l1 x6_1).f3.f1) == t794)) = true
     ·
      rw [if_pos c6] at H
      have c6b0 : (((rd_T53 l1 x6_1).f3.f0) == t793 && (((rd_T53 l1 x6_1).f3.f1) == t794)) = true := c6
      (try (have c6b1 : decide (((rd_T53 l1 x6_1).f3.f0) = t793 && (((rd_T53 l1 x6_1).f3.f1) == t794)) = true := by simpa using c6))
      (try (have c6b2 : (((rd_T53 l1 x6_1).f3.f0) == t793 && (((rd_T53 l1 x6_1).f3.f1) == t794)) = true := by simpa using c6))
      clear c6
      by_cases c7 : x6_1 < (l0.length : Int)
      ·
       rw [if_pos c7] at H
       have c7b0 : decide (x6_1 < (l0.length : Int)) = true := decide_eq_true c7
       clear c7
       by_cases c8 : (rd l0 x6_1) ≥ 0
       ·
        rw [if_pos c8] at H
        have c8b0 : decide (0 ≤ (rd l0 x6_1)) = true := decide_eq_true c8
        clear c8
        by_cases c9 : x5_1 < 0
        ·
         rw [if_pos c9] at H
         have c9b0 : decide (x5_1 < 0) = true := decide_eq_true c9
         clear c9
         have H' := Aside0.mk H
         clear H
         try go_wp2
         have n0_ := Aside0.mk (below_drew1 HB.out)
         clear HB
         have HB := n0_
         clear n0_
         have p792 : 0 ≤ (x6_1 : Int) := of_decide_eq_true zs_
         have q792 : x6_1 < (l1.length : Int) := of_decide_eq_true zs_
         obtain ⟨ad792, A792_0, c792_0, A792_1, c792_1, e792, hx792_0, hx792_1, hx792_2, hx792_3, hx792_4, hl792_0, hi792_0, hl792_1, hi792_1⟩ := at_T53 HR1.out x6_1 p792 q792
         have hw792_4 := hx792_4
         have hw792_3 := hx792_3
         have hw792_2 := hx792_2
         have hw792_1 := hx792_1
         have hw792_0 := hx792_0
         cases e792
         replace hx792_0 := (HB.out.cell (World.block_lt_of_cell? w _ hx792_0)).trans hx792_0
         replace hx792_1 := (HB.out.cell (World.block_lt_of_cell? w _ hx792_1)).trans hx792_1
         replace hx792_2 := (HB.out.cell (World.block_lt_of_cell? w _ hx792_2)).trans hx792_2
         replace hx792_3 := (HB.out.cell (World.block_lt_of_cell? w _ hx792_3)).trans hx792_3
         replace hx792_4 := (HB.out.cell (World.block_lt_of_cell? w _ hx792_4)).trans hx792_4
         have HR792_0 := Aside0.mk hi792_0
         have HC792_0 := Aside0.mk hl792_0
         clear hi792_0 hl792_0
         have HR792_1 := Aside0.mk hi792_1
         have HC792_1 := Aside0.mk hl792_1
         clear hi792_1 hl792_1
         replace p792 := eq_true p792
         replace q792 := eq_true q792
         have p795 : 0 ≤ (x6_1 : Int) := of_decide_eq_true zs_
         have q795 : x6_1 < (l0.length : Int) := of_decide_eq_true zs_
         obtain ⟨ad795, e795, hx795_0⟩ := Kd.at_int HR0.out x6_1 p795 q795
         have hw795_0 := hx795_0
         cases e795
         replace hx795_0 := (HB.out.cell (World.block_lt_of_cell? w _ hx795_0)).trans hx795_0
         replace p795 := eq_true p795
         replace q795 := eq_true q795
         refine start_ (n := 30) (S := fun w' => w'.cell? (ad792.add ((x6_1).toNat * 5)) = some (.slice A792_0 ((rd_T53 l1 x6_1).f0).length c792_0) ∧ w'.cell? ⟨(ad792.add ((x6_1).toNat * 5)).block, (ad792.add ((x6_1).toNat * 5)).off + 1, none⟩ = some (.slice A792_1 ((rd_T53 l1 x6_1).f1).length c792_1) ∧ w'.cell? ⟨(ad792.add ((x6_1).toNat * 5)).block, (ad792.add ((x6_1).toNat * 5)).off + 2, none⟩ = some (.int .i64 ((rd_T53 l1 x6_1).f2)) ∧ w'.cell? ⟨(ad792.add ((x6_1).toNat * 5)).block, (ad792.add ((x6_1).toNat * 5)).off + 3, none⟩ = some (.int .u64 ((rd_T53 l1 x6_1).f3.f0)) ∧ w'.cell? ⟨(ad792.add ((x6_1).toNat * 5)).block, (ad792.add ((x6_1).toNat * 5)).off + 4, none⟩ = some (.int .i64 ((rd_T53 l1 x6_1).f3.f1)) ∧ w'.cell? (ad795.add (x6_1).toNat) = some (.int .i64 (rd l0 x6_1))) (ds := []) #[F_,F_,F_,F_,F_,F_,F_,F_,F_,F_,F_,F_,F_,F_,F_,F_,F_,F_,F_,F_,F_,F_,F_,F_,F_,F_,F_,F_,F_,F_] (by kernel_rfl) rfl rfl ⟨((HB.out.cell (World.block_lt_of_cell? w _ hw792_0)).trans hw792_0), ((HB.out.cell (World.block_lt_of_cell? w _ hw792_1)).trans hw792_1), ((HB.out.cell (World.block_lt_of_cell? w _ hw792_2)).trans hw792_2), ((HB.out.cell (World.block_lt_of_cell? w _ hw792_3)).trans hw792_3), ((HB.out.cell (World.block_lt_of_cell? w _ hw792_4)).trans hw792_4), ((HB.out.cell (World.block_lt_of_cell? w _ hw795_0)).trans hw795_0)⟩ (fun hHeld => ?_); refine with_tabW folkmootref16_Chosen.tab5 folkmootref16_Chosen.bits5 (fun HT_ HW_ => ?_)
         generalize wr.drew = w10 at HB HR792_0 HR792_1 hx792_0 hx792_1 hx792_2 hx792_3 hx792_4 hx795_0 hHeld ⊢
         refine pure_ (i := 0) (N := some 13) (v := ?_) (a' := ?_) #[T_,F_,F_,F_,F_,F_,F_,F_,F_,F_,F_,F_,F_,F_,F_,F_,F_,F_,F_,F_,F_,F_,F_,F_,F_,F_,F_,F_,F_,F_] rfl rfl (any_of HT_.out (by kernel_rfl)) (fun _ _ _ h => h) (Or.inl ⟨by rfl, ?_⟩) ?_ ?_
         rotate_left
         ·
          intro w'; go_simp; with_reducible rfl
         rotate_left
         ·
          exact zp_
         refine pure_ (i := 1) (N := some 14) (v := ?_) (a' := ?_) #[T_,T_,F_,F_,F_,F_,F_,F_,F_,F_,F_,F_,F_,F_,F_,F_,F_,F_,F_,F_,F_,F_,F_,F_,F_,F_,F_,F_,F_,F_] rfl rfl (any_of HT_.out (by kernel_rfl)) (fun _ _ _ h => h) (Or.inl ⟨by rfl, ?_⟩) ?_ ?_
         rotate_left
         ·
          intro w'; go_simp; with_reducible rfl
         rotate_left
         ·
          exact zp_
         refine pure_ (i := 2) (N := some 15) (v := ?_) (a' := ?_) #[T_,T_,T_,F_,F_,F_,F_,F_,F_,F_,F_,F_,F_,F_,F_,F_,F_,F_,F_,F_,F_,F_,F_,F_,F_,F_,F_,F_,F_,F_] rfl rfl (any_of HT_.out (by kernel_rfl)) (fun _ _ _ h => h) (Or.inl ⟨by rfl, ?_⟩) ?_ ?_
         rotate_left
         ·
          intro w'; go_simp; with_reducible rfl
         rotate_left
         ·
          exact zp_
         refine pure_ (i := 3) (N := some 16) (v := ?_) (a' := ?_) #[T_,T_,T_,T_,F_,F_,F_,F_,F_,F_,F_,F_,F_,F_,F_,F_,F_,F_,F_,F_,F_,F_,F_,F_,F_,F_,F_,F_,F_,F_] rfl rfl (any_of HT_.out (by kernel_rfl)) (fun _ _ _ h => h) (Or.inl ⟨by rfl, ?_⟩) ?_ ?_
         rotate_left
         ·
          intro w'; go_simp; with_reducible rfl
         rotate_left
         ·
          exact zp_
         refine pure_ (i := 5) (N := some 18) (v := ?_) (a' := ?_) #[T_,T_,T_,T_,F_,T_,F_,F_,F_,F_,F_,F_,F_,F_,F_,F_,F_,F_,F_,F_,F_,F_,F_,F_,F_,F_,F_,F_,F_,F_] rfl rfl (any_of HT_.out (by kernel_rfl)) (fun _ _ _ h => h) (Or.inl ⟨by rfl, ?_⟩) ?_ ?_
         rotate_left
         ·
          intro w'; go_simp; with_reducible rfl
         rotate_left
         ·
          exact zp_
         refine take_ (i := 4) (N := some 17) (v := ?_) (a' := ?_) #[T_,T_,T_,T_,T_,T_,F_,F_,F_,F_,F_,F_,F_,F_,F_,F_,F_,F_,F_,F_,F_,F_,F_,F_,F_,F_,F_,F_,F_,F_] rfl rfl (take_ofW HT_.out HW_.out (by kernel_rfl)) (fun _ _ _ h => h) (Or.inl ⟨by rfl, ?_⟩) hHeld ?_ ?_
         rotate_left
         ·
          rintro w' ⟨s0, s1, s2, s3, s4, s5⟩
          go_simp
          with_reducible rfl
         rotate_left
         ·
          exact zp_
         refine one_ (i := 6) (N := some 19) #[T_,T_,T_,T_,T_,T_,T_,F_,F_,F_,F_,F_,F_,F_,F_,F_,F_,F_,F_,F_,F_,F_,F_,F_,F_,F_,F_,F_,F_,F_] rfl rfl (one_of HT_.out (by kernel_rfl)) (by decide) (fun K hK => ?_)
         refine goes_ Try.func60 (by kernel_rfl) rfl #[.slice (some ad792) l1.length c1] (by rfl) rfl rfl za_ ?_
         with_reducible refine (folkmootref16_High.calls k1 _ _ l1 t793 t794 _ ?side1 ?side2 A5.out).mono ?_
         (case side1 => exact zc_ HR1 HB)
         (case side2 => exact HC1.out)
         rintro e w11 ⟨rfl, hb⟩
         refine ⟨_, rfl, ?_⟩
         have n0_ := Aside0.mk (below_step zb_ hb)
         clear HB
         have HB := n0_
         clear n0_
         (try clear hb)
         (try clear hb2)
         (try clear hk)
         (try clear hi)
         refine hK.out _ _ ⟨((HB.out.cell (World.block_lt_of_cell? w _ hw792_0)).trans hw792_0), ((HB.out.cell (World.block_lt_of_cell? w _ hw792_1)).trans hw792_1), ((HB.out.cell (World.block_lt_of_cell? w _ hw792_2)).trans hw792_2), ((HB.out.cell (World.block_lt_of_cell? w _ hw792_3)).trans hw792_3), ((HB.out.cell (World.block_lt_of_cell? w _ hw792_4)).trans hw792_4), ((HB.out.cell (World.block_lt_of_cell? w _ hw795_0)).trans hw795_0)⟩ (fun hHeld => ?_)
         clear hK K
         refine norm_ (a' := ?_) ?_ ?_
         rotate_left
         ·
          show Act.put _ (some 19) _ = _
          simp only [Act.put, List.setIfInBounds_toArray, List.set_cons_zero, List.set_cons_succ, i64_w, i32_w]
          rfl
         refine pure_ (i := 7) (N := some 20) (v := ?_) (a' := ?_) #[T_,T_,T_,T_,T_,T_,T_,T_,F_,F_,F_,F_,F_,F_,F_,F_,F_,F_,F_,F_,F_,F_,F_,F_,F_,F_,F_,F_,F_,F_] rfl rfl (any_of HT_.out (by kernel_rfl)) (fun _ _ _ h => h) (Or.inl ⟨by rfl, ?_⟩) ?_ ?_
         rotate_left
         ·
          intro w'; go_simp; with_reducible rfl
         rotate_left
         ·
          exact zp_
         refine pure_ (i := 8) (N := some 21) (v := ?_) (a' := ?_) #[T_,T_,T_,T_,T_,T_,T_,T_,T_,F_,F_,F_,F_,F_,F_,F_,F_,F_,F_,F_,F_,F_,F_,F_,F_,F_,F_,F_,F_,F_] rfl rfl (any_of HT_.out (by kernel_rfl)) (fun _ _ _ h => h) (Or.inl ⟨by rfl, ?_⟩) ?_ ?_
         rotate_left
         ·
          intro w'; go_simp; with_reducible rfl
         rotate_left
         ·
          exact zp_
         refine pure_ (i := 9) (N := some 22) (v := ?_) (a' := ?_) #[T_,T_,T_,T_,T_,T_,T_,T_,T_,T_,F_,F_,F_,F_,F_,F_,F_,F_,F_,F_,F_,F_,F_,F_,F_,F_,F_,F_,F_,F_] rfl rfl (any_of HT_.out (by kernel_rfl)) (fun _ _ _ h => h) (Or.inl ⟨by rfl, ?_⟩) ?_ ?_
         rotate_left
         ·
          intro w'; go_simp; with_reducible rfl
         rotate_left
         ·
          exact zp_
         refine pure_ (i := 10) (N := some 23) (v := ?_) (a' := ?_) #[T_,T_,T_,T_,T_,T_,T_,T_,T_,T_,T_,F_,F_,F_,F_,F_,F_,F_,F_,F_,F_,F_,F_,F_,F_,F_,F_,F_,F_,F_] rfl rfl (any_of HT_.out (by kernel_rfl)) (fun _ _ _ h => h) (Or.inl ⟨by rfl, ?_⟩) ?_ ?_
         rotate_left
         ·
          intro w'; go_simp; with_reducible rfl
         rotate_left
         ·
          exact zp_
         refine pure_ (i := 11) (N := some 24) (v := ?_) (a' := ?_) #[T_,T_,T_,T_,T_,T_,T_,T_,T_,T_,T_,T_,F_,F_,F_,F_,F_,F_,F_,F_,F_,F_,F_,F_,F_,F_,F_,F_,F_,F_] rfl rfl (any_of HT_.out (by kernel_rfl)) (fun _ _ _ h => h) (Or.inl ⟨by rfl, ?_⟩) ?_ ?_
         rotate_left
         ·
          intro w'; go_simp; with_reducible rfl
         rotate_left
         ·
          exact zp_
         refine take_ (i := 12) (N := some 25) (v := ?_) (a' := ?_) #[T_,T_,T_,T_,T_,T_,T_,T_,T_,T_,T_,T_,T_,F_,F_,F_,F_,F_,F_,F_,F_,F_,F_,F_,F_,F_,F_,F_,F_,F_] rfl rfl (take_ofW HT_.out HW_.out (by kernel_rfl)) (fun _ _ _ h => h) (Or.inl ⟨by rfl, ?_⟩) hHeld ?_ ?_
         rotate_left
         ·
          rintro w' ⟨s0, s1, s2, s3, s4, s5⟩
          go_simp
          with_reducible rfl
         rotate_left
         ·
          exact zp_
         refine pure_ (i := 13) (N := some 26) (v := ?_) (a' := ?_) #[T_,T_,T_,T_,T_,T_,T_,T_,T_,T_,T_,T_,T_,T_,F_,F_,F_,F_,F_,F_,F_,F_,F_,F_,F_,F_,F_,F_,F_,F_] rfl rfl (any_of HT_.out (by kernel_rfl)) (fun _ _ _ h => h) (Or.inl ⟨by rfl, ?_⟩) ?_ ?_
         rotate_left
         ·
          intro w'; go_simp; with_reducible rfl
         rotate_left
         ·
          exact zp_
         refine pure_ (i := 14) (N := some 27) (v := ?_) (a' := ?_) #[T_,T_,T_,T_,T_,T_,T_,T_,T_,T_,T_,T_,T_,T_,T_,F_,F_,F_,F_,F_,F_,F_,F_,F_,F_,F_,F_,F_,F_,F_] rfl rfl (any_of HT_.out (by kernel_rfl)) (fun _ _ _ h => h) (Or.inl ⟨by rfl, ?_⟩) ?_ ?_
         rotate_left
         ·
          intro w'; go_simp; with_reducible rfl
         rotate_left
         ·
          exact zp_
         refine pure_ (i := 15) (N := some 28) (v := ?_) (a' := ?_) #[T_,T_,T_,T_,T_,T_,T_,T_,T_,T_,T_,T_,T_,T_,T_,T_,F_,F_,F_,F_,F_,F_,F_,F_,F_,F_,F_,F_,F_,F_] rfl rfl (any_of HT_.out (by kernel_rfl)) (fun _ _ _ h => h) (Or.inl ⟨by rfl, ?_⟩) ?_ ?_
         rotate_left
         ·
          intro w'; go_simp; with_reducible rfl
         rotate_left
         ·
          exact zp_
         refine pure_ (i := 16) (N := some 29) (v := ?_) (a' := ?_) #[T_,T_,T_,T_,T_,T_,T_,T_,T_,T_,T_,T_,T_,T_,T_,T_,T_,F_,F_,F_,F_,F_,F_,F_,F_,F_,F_,F_,F_,F_] rfl rfl (any_of HT_.out (by kernel_rfl)) (fun _ _ _ h => h) (Or.inl ⟨by rfl, ?_⟩) ?_ ?_
         rotate_left
         ·
          intro w'; go_simp; with_reducible rfl
         rotate_left
         ·
          exact zp_
         refine pure_ (i := 17) (N := some 30) (v := ?_) (a' := ?_) #[T_,T_,T_,T_,T_,T_,T_,T_,T_,T_,T_,T_,T_,T_,T_,T_,T_,T_,F_,F_,F_,F_,F_,F_,F_,F_,F_,F_,F_,F_] rfl rfl (any_of HT_.out (by kernel_rfl)) (fun _ _ _ h => h) (Or.inl ⟨by rfl, ?_⟩) ?_ ?_
         rotate_left
         ·
          intro w'; go_simp; with_reducible rfl
         rotate_left
         ·
          exact zp_
         refine pure_ (i := 18) (N := some 31) (v := ?_) (a' := ?_) #[T_,T_,T_,T_,T_,T_,T_,T_,T_,T_,T_,T_,T_,T_,T_,T_,T_,T_,T_,F_,F_,F_,F_,F_,F_,F_,F_,F_,F_,F_] rfl rfl (any_of HT_.out (by kernel_rfl)) (fun _ _ _ h => h) (Or.inl ⟨by rfl, ?_⟩) ?_ ?_
         rotate_left
         ·
          intro w'; go_simp; with_reducible rfl
         rotate_left
         ·
          exact zp_
         refine pure_ (i := 19) (N := some 32) (v := undef) (a' := ?_) #[T_,T_,T_,T_,T_,T_,T_,T_,T_,T_,T_,T_,T_,T_,T_,T_,T_,T_,T_,T_,F_,F_,F_,F_,F_,F_,F_,F_,F_,F_] rfl rfl (any_of HT_.out (by kernel_rfl)) (fun _ _ _ h => h) (Or.inr ⟨by rfl, rfl⟩) ?_ ?_
         rotate_left
         ·
          exact zp_
         refine pure_ (i := 20) (N := some 33) (v := undef) (a' := ?_) #[T_,T_,T_,T_,T_,T_,T_,T_,T_,T_,T_,T_,T_,T_,T_,T_,T_,T_,T_,T_,T_,F_,F_,F_,F_,F_,F_,F_,F_,F_] rfl rfl (any_of HT_.out (by kernel_rfl)) (fun _ _ _ h => h) (Or.inr ⟨by rfl, rfl⟩) ?_ ?_
         rotate_left
         ·
          exact zp_
         refine pure_ (i := 21) (N := some 34) (v := undef) (a' := ?_) #[T_,T_,T_,T_,T_,T_,T_,T_,T_,T_,T_,T_,T_,T_,T_,T_,T_,T_,T_,T_,T_,T_,F_,F_,F_,F_,F_,F_,F_,F_] rfl rfl (any_of HT_.out (by kernel_rfl)) (fun _ _ _ h => h) (Or.inr ⟨by rfl, rfl⟩) ?_ ?_
         rotate_left
         ·
          exact zp_
         refine pure_ (i := 22) (N := some 35) (v := undef) (a' := ?_) #[T_,T_,T_,T_,T_,T_,T_,T_,T_,T_,T_,T_,T_,T_,T_,T_,T_,T_,T_,T_,T_,T_,T_,F_,F_,F_,F_,F_,F_,F_] rfl rfl (any_of HT_.out (by kernel_rfl)) (fun _ _ _ h => h) (Or.inr ⟨by rfl, rfl⟩) ?_ ?_
         rotate_left
         ·
          exact zp_
         refine pure_ (i := 23) (N := some 36) (v := undef) (a' := ?_) #[T_,T_,T_,T_,T_,T_,T_,T_,T_,T_,T_,T_,T_,T_,T_,T_,T_,T_,T_,T_,T_,T_,T_,T_,F_,F_,F_,F_,F_,F_] rfl rfl (any_of HT_.out (by kernel_rfl)) (fun _ _ _ h => h) (Or.inr ⟨by rfl, rfl⟩) ?_ ?_
         rotate_left
         ·
          exact zp_
         refine pure_ (i := 24) (N := some 37) (v := undef) (a' := ?_) #[T_,T_,T_,T_,T_,T_,T_,T_,T_,T_,T_,T_,T_,T_,T_,T_,T_,T_,T_,T_,T_,T_,T_,T_,T_,F_,F_,F_,F_,F_] rfl rfl (any_of HT_.out (by kernel_rfl)) (fun _ _ _ h => h) (Or.inr ⟨by rfl, rfl⟩) ?_ ?_
         rotate_left
         ·
          exact zp_
         refine pure_ (i := 25) (N := some 38) (v := undef) (a' := ?_) #[T_,T_,T_,T_,T_,T_,T_,T_,T_,T_,T_,T_,T_,T_,T_,T_,T_,T_,T_,T_,T_,T_,T_,T_,T_,T_,F_,F_,F_,F_] rfl rfl (any_of HT_.out (by kernel_rfl)) (fun _ _ _ h => h) (Or.inr ⟨by rfl, rfl⟩) ?_ ?_
         rotate_left
         ·
          exact zp_
         refine pure_ (i := 26) (N := some 39) (v := undef) (a' := ?_) #[T_,T_,T_,T_,T_,T_,T_,T_,T_,T_,T_,T_,T_,T_,T_,T_,T_,T_,T_,T_,T_,T_,T_,T_,T_,T_,T_,F_,F_,F_] rfl rfl (any_of HT_.out (by kernel_rfl)) (fun _ _ _ h => h) (Or.inr ⟨by rfl, rfl⟩) ?_ ?_
         rotate_left
         ·
          exact zp_
         refine pure_ (i := 27) (N := some 40) (v := undef) (a' := ?_) #[T_,T_,T_,T_,T_,T_,T_,T_,T_,T_,T_,T_,T_,T_,T_,T_,T_,T_,T_,T_,T_,T_,T_,T_,T_,T_,T_,T_,F_,F_] rfl rfl (any_of HT_.out (by kernel_rfl)) (fun _ _ _ h => h) (Or.inr ⟨by rfl, rfl⟩) ?_ ?_
         rotate_left
         ·
          exact zp_
         refine pure_ (i := 28) (N := some 41) (v := ?_) (a' := ?_) #[T_,T_,T_,T_,T_,T_,T_,T_,T_,T_,T_,T_,T_,T_,T_,T_,T_,T_,T_,T_,T_,T_,T_,T_,T_,T_,T_,T_,T_,F_] rfl rfl (any_of HT_.out (by kernel_rfl)) (fun _ _ _ h => h) (Or.inl ⟨by rfl, ?_⟩) ?_ ?_
         rotate_left
         ·
          intro w'; go_simp; with_reducible rfl
         rotate_left
         ·
          exact zp_
         refine pure_ (i := 29) (N := some 42) (v := ?_) (a' := ?_) #[T_,T_,T_,T_,T_,T_,T_,T_,T_,T_,T_,T_,T_,T_,T_,T_,T_,T_,T_,T_,T_,T_,T_,T_,T_,T_,T_,T_,T_,T_] rfl rfl (any_of HT_.out (by kernel_rfl)) (fun _ _ _ h => h) (Or.inl ⟨by rfl, ?_⟩) ?_ ?_
         rotate_left
         ·
          intro w'; go_simp; with_reducible rfl
         rotate_left
         ·
          exact zp_
         refine done_ (done_of HT_.out (by kernel_rfl)) ?_
         (try clear hHeld); (try clear HS0_)
         try go_wp2
         go_roundg k1
         case measure => have := HK1.out; omega
         case rel => exact ⟨(x6_1), (wrap64 (x6_1 + 1)), (by first | rfl | (simp; done) | (simp [*]; done)), (by first | rfl | (simp; done) | (simp [*]; done)), H', ⟨by have := HK1.out; omega⟩, ⟨by repeat (first | (with_reducible first | exact HB.out | apply below_alloc | apply pw_below_drewN | apply below_drew1) | exact HB.out)⟩⟩
        ·
         rw [if_neg c9] at H
         have c9b0 : decide (x5_1 < 0) = false := decide_eq_false c9
         clear c9
         by_cases c12 : 0 ≤ x5_1
         ·
          rw [if_pos c12] at H
          have c12b0 : decide (0 ≤ x5_1) = true := decide_eq_true c12
          clear c12
          by_cases c13 : x5_1 < (l0.length : Int)
          ·
           rw [if_pos c13] at H
           have c13b0 : decide (x5_1 < (l0.length : Int)) = true := decide_eq_true c13
           clear c13
           by_cases c14 : (rd l0 x6_1) > (rd l0 x5_1)
           ·
            rw [if_pos c14] at H
            have c14b0 : decide ((rd l0 x5_1) < (rd l0 x6_1)) = true := decide_eq_true c14
            clear c14
            have H' := Aside0.mk H
            clear H
            try go_wp2
            have n0_ := Aside0.mk (below_drew1 HB.out)
            clear HB
            have HB := n0_
            clear n0_
            have p792 : 0 ≤ (x6_1 : Int) := of_decide_eq_true zs_
            have q792 : x6_1 < (l1.length : Int) := of_decide_eq_true zs_
            obtain ⟨ad792, A792_0, c792_0, A792_1, c792_1, e792, hx792_0, hx792_1, hx792_2, hx792_3, hx792_4, hl792_0, hi792_0, hl792_1, hi792_1⟩ := at_T53 HR1.out x6_1 p792 q792
            have hw792_4 := hx792_4
            have hw792_3 := hx792_3
            have hw792_2 := hx792_2
            have hw792_1 := hx792_1
            have hw792_0 := hx792_0
            cases e792
            replace hx792_0 := (HB.out.cell (World.block_lt_of_cell? w _ hx792_0)).trans hx792_0
            replace hx792_1 := (HB.out.cell (World.block_lt_of_cell? w _ hx792_1)).trans hx792_1
            replace hx792_2 := (HB.out.cell (World.block_lt_of_cell? w _ hx792_2)).trans hx792_2
            replace hx792_3 := (HB.out.cell (World.block_lt_of_cell? w _ hx792_3)).trans hx792_3
            replace hx792_4 := (HB.out.cell (World.block_lt_of_cell? w _ hx792_4)).trans hx792_4
            have HR792_0 := Aside0.mk hi792_0
            have HC792_0 := Aside0.mk hl792_0
            clear hi792_0 hl792_0
            have HR792_1 := Aside0.mk hi792_1
            have HC792_1 := Aside0.mk hl792_1
            clear hi792_1 hl792_1
            replace p792 := eq_true p792
            replace q792 := eq_true q792
            have p795 : 0 ≤ (x6_1 : Int) := of_decide_eq_true zs_
            have q795 : x6_1 < (l0.length : Int) := of_decide_eq_true zs_
            obtain ⟨ad795, e795, hx795_0⟩ := Kd.at_int HR0.out x6_1 p795 q795
            have hw795_0 := hx795_0
            cases e795
            replace hx795_0 := (HB.out.cell (World.block_lt_of_cell? w _ hx795_0)).trans hx795_0
            replace p795 := eq_true p795
            replace q795 := eq_true q795
            have p796 : 0 ≤ (x6_1 : Int) := of_decide_eq_true zs_
            have q796 : x6_1 < (l0.length : Int) := of_decide_eq_true zs_
            obtain ⟨ad796, e796, hx796_0⟩ := Kd.at_int HR0.out x6_1 p796 q796
            have hw796_0 := hx796_0
            obtain rfl : ad795 = ad796 := (by injection e796)
            replace hx796_0 := (HB.out.cell (World.block_lt_of_cell? w _ hx796_0)).trans hx796_0
            replace p796 := eq_true p796
            replace q796 := eq_true q796
            have p797 : 0 ≤ (x5_1 : Int) := of_decide_eq_true zs_
            have q797 : x5_1 < (l0.length : Int) := of_decide_eq_true zs_
            obtain ⟨ad797, e797, hx797_0⟩ := Kd.at_int HR0.out x5_1 p797 q797
            have hw797_0 := hx797_0
            obtain rfl : ad795 = ad797 := (by injection e797)
            replace hx797_0 := (HB.out.cell (World.block_lt_of_cell? w _ hx797_0)).trans hx797_0
            replace p797 := eq_true p797
            replace q797 := eq_true q797
            refine start_ (n := 30) (S := fun w' => w'.cell? (ad792.add ((x6_1).toNat * 5)) = some (.slice A792_0 ((rd_T53 l1 x6_1).f0).length c792_0) ∧ w'.cell? ⟨(ad792.add ((x6_1).toNat * 5)).block, (ad792.add ((x6_1).toNat * 5)).off + 1, none⟩ = some (.slice A792_1 ((rd_T53 l1 x6_1).f1).length c792_1) ∧ w'.cell? ⟨(ad792.add ((x6_1).toNat * 5)).block, (ad792.add ((x6_1).toNat * 5)).off + 2, none⟩ = some (.int .i64 ((rd_T53 l1 x6_1).f2)) ∧ w'.cell? ⟨(ad792.add ((x6_1).toNat * 5)).block, (ad792.add ((x6_1).toNat * 5)).off + 3, none⟩ = some (.int .u64 ((rd_T53 l1 x6_1).f3.f0)) ∧ w'.cell? ⟨(ad792.add ((x6_1).toNat * 5)).block, (ad792.add ((x6_1).toNat * 5)).off + 4, none⟩ = some (.int .i64 ((rd_T53 l1 x6_1).f3.f1)) ∧ w'.cell? (ad795.add (x6_1).toNat) = some (.int .i64 (rd l0 x6_1)) ∧ w'.cell? (ad795.add (x6_1).toNat) = some (.int .i64 (rd l0 x6_1)) ∧ w'.cell? (ad795.add (x5_1).toNat) = some (.int .i64 (rd l0 x5_1))) (ds := []) #[F_,F_,F_,F_,F_,F_,F_,F_,F_,F_,F_,F_,F_,F_,F_,F_,F_,F_,F_,F_,F_,F_,F_,F_,F_,F_,F_,F_,F_,F_] (by kernel_rfl) rfl rfl ⟨((HB.out.cell (World.block_lt_of_cell? w _ hw792_0)).trans hw792_0), ((HB.out.cell (World.block_lt_of_cell? w _ hw792_1)).trans hw792_1), ((HB.out.cell (World.block_lt_of_cell? w _ hw792_2)).trans hw792_2), ((HB.out.cell (World.block_lt_of_cell? w _ hw792_3)).trans hw792_3), ((HB.out.cell (World.block_lt_of_cell? w _ hw792_4)).trans hw792_4), ((HB.out.cell (World.block_lt_of_cell? w _ hw795_0)).trans hw795_0), ((HB.out.cell (World.block_lt_of_cell? w _ hw796_0)).trans hw796_0), ((HB.out.cell (World.block_lt_of_cell? w _ hw797_0)).trans hw797_0)⟩ (fun hHeld => ?_); refine with_tabW folkmootref16_Chosen.tab5 folkmootref16_Chosen.bits5 (fun HT_ HW_ => ?_)
            generalize wr.drew = w15 at HB HR792_0 HR792_1 hx792_0 hx792_1 hx792_2 hx792_3 hx792_4 hx795_0 hx796_0 hx797_0 hHeld ⊢
            refine pure_ (i := 0) (N := some 13) (v := ?_) (a' := ?_) #[T_,F_,F_,F_,F_,F_,F_,F_,F_,F_,F_,F_,F_,F_,F_,F_,F_,F_,F_,F_,F_,F_,F_,F_,F_,F_,F_,F_,F_,F_] rfl rfl (any_of HT_.out (by kernel_rfl)) (fun _ _ _ h => h) (Or.inl ⟨by rfl, ?_⟩) ?_ ?_
            rotate_left
            ·
             intro w'; go_simp; with_reducible rfl
            rotate_left
            ·
             exact zp_
            refine pure_ (i := 1) (N := some 14) (v := ?_) (a' := ?_) #[T_,T_,F_,F_,F_,F_,F_,F_,F_,F_,F_,F_,F_,F_,F_,F_,F_,F_,F_,F_,F_,F_,F_,F_,F_,F_,F_,F_,F_,F_] rfl rfl (any_of HT_.out (by kernel_rfl)) (fun _ _ _ h => h) (Or.inl ⟨by rfl, ?_⟩) ?_ ?_
            rotate_left
            ·
             intro w'; go_simp; with_reducible rfl
            rotate_left
            ·
             exact zp_
            refine pure_ (i := 2) (N := some 15) (v := ?_) (a' := ?_) #[T_,T_,T_,F_,F_,F_,F_,F_,F_,F_,F_,F_,F_,F_,F_,F_,F_,F_,F_,F_,F_,F_,F_,F_,F_,F_,F_,F_,F_,F_] rfl rfl (any_of HT_.out (by kernel_rfl)) (fun _ _ _ h => h) (Or.inl ⟨by rfl, ?_⟩) ?_ ?_
            rotate_left
            ·
             intro w'; go_simp; with_reducible rfl
            rotate_left
            ·
             exact zp_
            refine pure_ (i := 3) (N := some 16) (v := ?_) (a' := ?_) #[T_,T_,T_,T_,F_,F_,F_,F_,F_,F_,F_,F_,F_,F_,F_,F_,F_,F_,F_,F_,F_,F_,F_,F_,F_,F_,F_,F_,F_,F_] rfl rfl (any_of HT_.out (by kernel_rfl)) (fun _ _ _ h => h) (Or.inl ⟨by rfl, ?_⟩) ?_ ?_
            rotate_left
            ·
             intro w'; go_simp; with_reducible rfl
            rotate_left
            ·
             exact zp_
            refine pure_ (i := 5) (N := some 18) (v := ?_) (a' := ?_) #[T_,T_,T_,T_,F_,T_,F_,F_,F_,F_,F_,F_,F_,F_,F_,F_,F_,F_,F_,F_,F_,F_,F_,F_,F_,F_,F_,F_,F_,F_] rfl rfl (any_of HT_.out (by kernel_rfl)) (fun _ _ _ h => h) (Or.inl ⟨by rfl, ?_⟩) ?_ ?_
            rotate_left
            ·
             intro w'; go_simp; with_reducible rfl
            rotate_left
            ·
             exact zp_
            refine take_ (i := 4) (N := some 17) (v := ?_) (a' := ?_) #[T_,T_,T_,T_,T_,T_,F_,F_,F_,F_,F_,F_,F_,F_,F_,F_,F_,F_,F_,F_,F_,F_,F_,F_,F_,F_,F_,F_,F_,F_] rfl rfl (take_ofW HT_.out HW_.out (by kernel_rfl)) (fun _ _ _ h => h) (Or.inl ⟨by rfl, ?_⟩) hHeld ?_ ?_
            rotate_left
            ·
             rintro w' ⟨s0, s1, s2, s3, s4, s5, s6, s7⟩
             go_simp
             with_reducible rfl
            rotate_left
            ·
             exact zp_
            refine one_ (i := 6) (N := some 19) #[T_,T_,T_,T_,T_,T_,T_,F_,F_,F_,F_,F_,F_,F_,F_,F_,F_,F_,F_,F_,F_,F_,F_,F_,F_,F_,F_,F_,F_,F_] rfl rfl (one_of HT_.out (by kernel_rfl)) (by decide) (fun K hK => ?_)
            refine goes_ Try.func60 (by kernel_rfl) rfl #[.slice (some ad792) l1.length c1] (by rfl) rfl rfl za_ ?_
            with_reducible refine (folkmootref16_High.calls k1 _ _ l1 t793 t794 _ ?side1 ?side2 A5.out).mono ?_
            (case side1 => exact zc_ HR1 HB)
            (case side2 => exact HC1.out)
            rintro e w16 ⟨rfl, hb⟩
            refine ⟨_, rfl, ?_⟩
            have n0_ := Aside0.mk (below_step zb_ hb)
            clear HB
            have HB := n0_
            clear n0_
            (try clear hb)
            (try clear hb2)
            (try clear hk)
            (try clear hi)
            refine hK.out _ _ ⟨((HB.out.cell (World.block_lt_of_cell? w _ hw792_0)).trans hw792_0), ((HB.out.cell (World.block_lt_of_cell? w _ hw792_1)).trans hw792_1), ((HB.out.cell (World.block_lt_of_cell? w _ hw792_2)).trans hw792_2), ((HB.out.cell (World.block_lt_of_cell? w _ hw792_3)).trans hw792_3), ((HB.out.cell (World.block_lt_of_cell? w _ hw792_4)).trans hw792_4), ((HB.out.cell (World.block_lt_of_cell? w _ hw795_0)).trans hw795_0), ((HB.out.cell (World.block_lt_of_cell? w _ hw796_0)).trans hw796_0), ((HB.out.cell (World.block_lt_of_cell? w _ hw797_0)).trans hw797_0)⟩ (fun hHeld => ?_)
            clear hK K
            refine norm_ (a' := ?_) ?_ ?_
            rotate_left
            ·
             show Act.put _ (some 19) _ = _
             simp only [Act.put, List.setIfInBounds_toArray, List.set_cons_zero, List.set_cons_succ, i64_w, i32_w]
             rfl
            refine pure_ (i := 7) (N := some 20) (v := ?_) (a' := ?_) #[T_,T_,T_,T_,T_,T_,T_,T_,F_,F_,F_,F_,F_,F_,F_,F_,F_,F_,F_,F_,F_,F_,F_,F_,F_,F_,F_,F_,F_,F_] rfl rfl (any_of HT_.out (by kernel_rfl)) (fun _ _ _ h => h) (Or.inl ⟨by rfl, ?_⟩) ?_ ?_
            rotate_left
            ·
             intro w'; go_simp; with_reducible rfl
            rotate_left
            ·
             exact zp_
            refine pure_ (i := 8) (N := some 21) (v := ?_) (a' := ?_) #[T_,T_,T_,T_,T_,T_,T_,T_,T_,F_,F_,F_,F_,F_,F_,F_,F_,F_,F_,F_,F_,F_,F_,F_,F_,F_,F_,F_,F_,F_] rfl rfl (any_of HT_.out (by kernel_rfl)) (fun _ _ _ h => h) (Or.inl ⟨by rfl, ?_⟩) ?_ ?_
            rotate_left
            ·
             intro w'; go_simp; with_reducible rfl
            rotate_left
            ·
             exact zp_
            refine pure_ (i := 9) (N := some 22) (v := ?_) (a' := ?_) #[T_,T_,T_,T_,T_,T_,T_,T_,T_,T_,F_,F_,F_,F_,F_,F_,F_,F_,F_,F_,F_,F_,F_,F_,F_,F_,F_,F_,F_,F_] rfl rfl (any_of HT_.out (by kernel_rfl)) (fun _ _ _ h => h) (Or.inl ⟨by rfl, ?_⟩) ?_ ?_
            rotate_left
            ·
             intro w'; go_simp; with_reducible rfl
            rotate_left
            ·
             exact zp_
            refine pure_ (i := 10) (N := some 23) (v := ?_) (a' := ?_) #[T_,T_,T_,T_,T_,T_,T_,T_,T_,T_,T_,F_,F_,F_,F_,F_,F_,F_,F_,F_,F_,F_,F_,F_,F_,F_,F_,F_,F_,F_] rfl rfl (any_of HT_.out (by kernel_rfl)) (fun _ _ _ h => h) (Or.inl ⟨by rfl, ?_⟩) ?_ ?_
            rotate_left
            ·
             intro w'; go_simp; with_reducible rfl
            rotate_left
            ·
             exact zp_
            refine pure_ (i := 11) (N := some 24) (v := ?_) (a' := ?_) #[T_,T_,T_,T_,T_,T_,T_,T_,T_,T_,T_,T_,F_,F_,F_,F_,F_,F_,F_,F_,F_,F_,F_,F_,F_,F_,F_,F_,F_,F_] rfl rfl (any_of HT_.out (by kernel_rfl)) (fun _ _ _ h => h) (Or.inl ⟨by rfl, ?_⟩) ?_ ?_
            rotate_left
            ·
             intro w'; go_simp; with_reducible rfl
            rotate_left
            ·
             exact zp_
            refine take_ (i := 12) (N := some 25) (v := ?_) (a' := ?_) #[T_,T_,T_,T_,T_,T_,T_,T_,T_,T_,T_,T_,T_,F_,F_,F_,F_,F_,F_,F_,F_,F_,F_,F_,F_,F_,F_,F_,F_,F_] rfl rfl (take_ofW HT_.out HW_.out (by kernel_rfl)) (fun _ _ _ h => h) (Or.inl ⟨by rfl, ?_⟩) hHeld ?_ ?_
            rotate_left
            ·
             rintro w' ⟨s0, s1, s2, s3, s4, s5, s6, s7⟩
             go_simp
             with_reducible rfl
            rotate_left
            ·
             exact zp_
            refine pure_ (i := 13) (N := some 26) (v := ?_) (a' := ?_) #[T_,T_,T_,T_,T_,T_,T_,T_,T_,T_,T_,T_,T_,T_,F_,F_,F_,F_,F_,F_,F_,F_,F_,F_,F_,F_,F_,F_,F_,F_] rfl rfl (any_of HT_.out (by kernel_rfl)) (fun _ _ _ h => h) (Or.inl ⟨by rfl, ?_⟩) ?_ ?_
            rotate_left
            ·
             intro w'; go_simp; with_reducible rfl
            rotate_left
            ·
             exact zp_
            refine pure_ (i := 14) (N := some 27) (v := ?_) (a' := ?_) #[T_,T_,T_,T_,T_,T_,T_,T_,T_,T_,T_,T_,T_,T_,T_,F_,F_,F_,F_,F_,F_,F_,F_,F_,F_,F_,F_,F_,F_,F_] rfl rfl (any_of HT_.out (by kernel_rfl)) (fun _ _ _ h => h) (Or.inl ⟨by rfl, ?_⟩) ?_ ?_
            rotate_left
            ·
             intro w'; go_simp; with_reducible rfl
            rotate_left
            ·
             exact zp_
            refine pure_ (i := 15) (N := some 28) (v := ?_) (a' := ?_) #[T_,T_,T_,T_,T_,T_,T_,T_,T_,T_,T_,T_,T_,T_,T_,T_,F_,F_,F_,F_,F_,F_,F_,F_,F_,F_,F_,F_,F_,F_] rfl rfl (any_of HT_.out (by kernel_rfl)) (fun _ _ _ h => h) (Or.inl ⟨by rfl, ?_⟩) ?_ ?_
            rotate_left
            ·
             intro w'; go_simp; with_reducible rfl
            rotate_left
            ·
             exact zp_
            refine pure_ (i := 16) (N := some 29) (v := ?_) (a' := ?_) #[T_,T_,T_,T_,T_,T_,T_,T_,T_,T_,T_,T_,T_,T_,T_,T_,T_,F_,F_,F_,F_,F_,F_,F_,F_,F_,F_,F_,F_,F_] rfl rfl (any_of HT_.out (by kernel_rfl)) (fun _ _ _ h => h) (Or.inl ⟨by rfl, ?_⟩) ?_ ?_
            rotate_left
            ·
             intro w'; go_simp; with_reducible rfl
            rotate_left
            ·
             exact zp_
            refine pure_ (i := 17) (N := some 30) (v := ?_) (a' := ?_) #[T_,T_,T_,T_,T_,T_,T_,T_,T_,T_,T_,T_,T_,T_,T_,T_,T_,T_,F_,F_,F_,F_,F_,F_,F_,F_,F_,F_,F_,F_] rfl rfl (any_of HT_.out (by kernel_rfl)) (fun _ _ _ h => h) (Or.inl ⟨by rfl, ?_⟩) ?_ ?_
            rotate_left
            ·
             intro w'; go_simp; with_reducible rfl
            rotate_left
            ·
             exact zp_
            refine pure_ (i := 18) (N := some 31) (v := ?_) (a' := ?_) #[T_,T_,T_,T_,T_,T_,T_,T_,T_,T_,T_,T_,T_,T_,T_,T_,T_,T_,T_,F_,F_,F_,F_,F_,F_,F_,F_,F_,F_,F_] rfl rfl (any_of HT_.out (by kernel_rfl)) (fun _ _ _ h => h) (Or.inl ⟨by rfl, ?_⟩) ?_ ?_
            rotate_left
            ·
             intro w'; go_simp; with_reducible rfl
            rotate_left
            ·
             exact zp_
            refine pure_ (i := 19) (N := some 32) (v := ?_) (a' := ?_) #[T_,T_,T_,T_,T_,T_,T_,T_,T_,T_,T_,T_,T_,T_,T_,T_,T_,T_,T_,T_,F_,F_,F_,F_,F_,F_,F_,F_,F_,F_] rfl rfl (any_of HT_.out (by kernel_rfl)) (fun _ _ _ h => h) (Or.inl ⟨by rfl, ?_⟩) ?_ ?_
            rotate_left
            ·
             intro w'; go_simp; with_reducible rfl
            rotate_left
            ·
             exact zp_
            refine pure_ (i := 20) (N := some 33) (v := ?_) (a' := ?_) #[T_,T_,T_,T_,T_,T_,T_,T_,T_,T_,T_,T_,T_,T_,T_,T_,T_,T_,T_,T_,T_,F_,F_,F_,F_,F_,F_,F_,F_,F_] rfl rfl (any_of HT_.out (by kernel_rfl)) (fun _ _ _ h => h) (Or.inl ⟨by rfl, ?_⟩) ?_ ?_
            rotate_left
            ·
             intro w'; go_simp; with_reducible rfl
            rotate_left
            ·
             exact zp_
            refine pure_ (i := 21) (N := some 34) (v := ?_) (a' := ?_) #[T_,T_,T_,T_,T_,T_,T_,T_,T_,T_,T_,T_,T_,T_,T_,T_,T_,T_,T_,T_,T_,T_,F_,F_,F_,F_,F_,F_,F_,F_] rfl rfl (any_of HT_.out (by kernel_rfl)) (fun _ _ _ h => h) (Or.inl ⟨by rfl, ?_⟩) ?_ ?_
            rotate_left
            ·
             intro w'; go_simp; with_reducible rfl
            rotate_left
            ·
             exact zp_
            refine pure_ (i := 23) (N := some 36) (v := ?_) (a' := ?_) #[T_,T_,T_,T_,T_,T_,T_,T_,T_,T_,T_,T_,T_,T_,T_,T_,T_,T_,T_,T_,T_,T_,F_,T_,F_,F_,F_,F_,F_,F_] rfl rfl (any_of HT_.out (by kernel_rfl)) (fun _ _ _ h => h) (Or.inl ⟨by rfl, ?_⟩) ?_ ?_
            rotate_left
            ·
             intro w'; go_simp; with_reducible rfl
            rotate_left
            ·
             exact zp_
            refine pure_ (i := 24) (N := some 37) (v := ?_) (a' := ?_) #[T_,T_,T_,T_,T_,T_,T_,T_,T_,T_,T_,T_,T_,T_,T_,T_,T_,T_,T_,T_,T_,T_,F_,T_,T_,F_,F_,F_,F_,F_] rfl rfl (any_of HT_.out (by kernel_rfl)) (fun _ _ _ h => h) (Or.inl ⟨by rfl, ?_⟩) ?_ ?_
            rotate_left
            ·
             intro w'; go_simp; with_reducible rfl
            rotate_left
            ·
             exact zp_
            refine pure_ (i := 25) (N := some 38) (v := ?_) (a' := ?_) #[T_,T_,T_,T_,T_,T_,T_,T_,T_,T_,T_,T_,T_,T_,T_,T_,T_,T_,T_,T_,T_,T_,F_,T_,T_,T_,F_,F_,F_,F_] rfl rfl (any_of HT_.out (by kernel_rfl)) (fun _ _ _ h => h) (Or.inl ⟨by rfl, ?_⟩) ?_ ?_
            rotate_left
            ·
             intro w'; go_simp; with_reducible rfl
            rotate_left
            ·
             exact zp_
            refine take_ (i := 22) (N := some 35) (v := ?_) (a' := ?_) #[T_,T_,T_,T_,T_,T_,T_,T_,T_,T_,T_,T_,T_,T_,T_,T_,T_,T_,T_,T_,T_,T_,T_,T_,T_,T_,F_,F_,F_,F_] rfl rfl (take_ofW HT_.out HW_.out (by kernel_rfl)) (fun _ _ _ h => h) (Or.inl ⟨by rfl, ?_⟩) hHeld ?_ ?_
            rotate_left
            ·
             rintro w' ⟨s0, s1, s2, s3, s4, s5, s6, s7⟩
             go_simp
             with_reducible rfl
            rotate_left
            ·
             exact zp_
            refine take_ (i := 26) (N := some 39) (v := ?_) (a' := ?_) #[T_,T_,T_,T_,T_,T_,T_,T_,T_,T_,T_,T_,T_,T_,T_,T_,T_,T_,T_,T_,T_,T_,T_,T_,T_,T_,T_,F_,F_,F_] rfl rfl (take_ofW HT_.out HW_.out (by kernel_rfl)) (fun _ _ _ h => h) (Or.inl ⟨by rfl, ?_⟩) hHeld ?_ ?_
            rotate_left
            ·
             rintro w' ⟨s0, s1, s2, s3, s4, s5, s6, s7⟩
             go_simp
             with_reducible rfl
            rotate_left
            ·
             exact zp_
            refine pure_ (i := 27) (N := some 40) (v := ?_) (a' := ?_) #[T_,T_,T_,T_,T_,T_,T_,T_,T_,T_,T_,T_,T_,T_,T_,T_,T_,T_,T_,T_,T_,T_,T_,T_,T_,T_,T_,T_,F_,F_] rfl rfl (any_of HT_.out (by kernel_rfl)) (fun _ _ _ h => h) (Or.inl ⟨by rfl, ?_⟩) ?_ ?_
            rotate_left
            ·
             intro w'; go_simp; with_reducible rfl
            rotate_left
            ·
             exact zp_
            refine pure_ (i := 28) (N := some 41) (v := ?_) (a' := ?_) #[T_,T_,T_,T_,T_,T_,T_,T_,T_,T_,T_,T_,T_,T_,T_,T_,T_,T_,T_,T_,T_,T_,T_,T_,T_,T_,T_,T_,T_,F_] rfl rfl (any_of HT_.out (by kernel_rfl)) (fun _ _ _ h => h) (Or.inl ⟨by rfl, ?_⟩) ?_ ?_
            rotate_left
            ·
             intro w'; go_simp; with_reducible rfl
            rotate_left
            ·
             exact zp_
            refine pure_ (i := 29) (N := some 42) (v := ?_) (a' := ?_) #[T_,T_,T_,T_,T_,T_,T_,T_,T_,T_,T_,T_,T_,T_,T_,T_,T_,T_,T_,T_,T_,T_,T_,T_,T_,T_,T_,T_,T_,T_] rfl rfl (any_of HT_.out (by kernel_rfl)) (fun _ _ _ h => h) (Or.inl ⟨by rfl, ?_⟩) ?_ ?_
            rotate_left
            ·
             intro w'; go_simp; with_reducible rfl
            rotate_left
            ·
             exact zp_
            refine done_ (done_of HT_.out (by kernel_rfl)) ?_
            (try clear hHeld); (try clear HS0_)
            try go_wp2
            go_roundg k1
            case measure => have := HK1.out; omega
            case rel => exact ⟨(x6_1), (wrap64 (x6_1 + 1)), (by first | rfl | (simp; done) | (simp [*]; done)), (by first | rfl | (simp; done) | (simp [*]; done)), H', ⟨by have := HK1.out; omega⟩, ⟨by repeat (first | (with_reducible first | exact HB.out | apply below_alloc | apply pw_below_drewN | apply below_drew1) | exact HB.out)⟩⟩
           ·
            rw [if_neg c14] at H
            have c14b0 : decide ((rd l0 x5_1) < (rd l0 x6_1)) = false := decide_eq_false c14
            clear c14
            have H' := Aside0.mk H
            clear H
            try go_wp2
            have n0_ := Aside0.mk (below_drew1 HB.out)
            clear HB
            have HB := n0_
            clear n0_
            have p792 : 0 ≤ (x6_1 : Int) := of_decide_eq_true zs_
            have q792 : x6_1 < (l1.length : Int) := of_decide_eq_true zs_
            obtain ⟨ad792, A792_0, c792_0, A792_1, c792_1, e792, hx792_0, hx792_1, hx792_2, hx792_3, hx792_4, hl792_0, hi792_0, hl792_1, hi792_1⟩ := at_T53 HR1.out x6_1 p792 q792
            have hw792_4 := hx792_4
            have hw792_3 := hx792_3
            have hw792_2 := hx792_2
            have hw792_1 := hx792_1
            have hw792_0 := hx792_0
            cases e792
            replace hx792_0 := (HB.out.cell (World.block_lt_of_cell? w _ hx792_0)).trans hx792_0
            replace hx792_1 := (HB.out.cell (World.block_lt_of_cell? w _ hx792_1)).trans hx792_1
            replace hx792_2 := (HB.out.cell (World.block_lt_of_cell? w _ hx792_2)).trans hx792_2
            replace hx792_3 := (HB.out.cell (World.block_lt_of_cell? w _ hx792_3)).trans hx792_3
            replace hx792_4 := (HB.out.cell (World.block_lt_of_cell? w _ hx792_4)).trans hx792_4
            have HR792_0 := Aside0.mk hi792_0
            have HC792_0 := Aside0.mk hl792_0
            clear hi792_0 hl792_0
            have HR792_1 := Aside0.mk hi792_1
            have HC792_1 := Aside0.mk hl792_1
            clear hi792_1 hl792_1
            replace p792 := eq_true p792
            replace q792 := eq_true q792
            have p795 : 0 ≤ (x6_1 : Int) := of_decide_eq_true zs_
            have q795 : x6_1 < (l0.length : Int) := of_decide_eq_true zs_
            obtain ⟨ad795, e795, hx795_0⟩ := Kd.at_int HR0.out x6_1 p795 q795
            have hw795_0 := hx795_0
            cases e795
            replace hx795_0 := (HB.out.cell (World.block_lt_of_cell? w _ hx795_0)).trans hx795_0
            replace p795 := eq_true p795
            replace q795 := eq_true q795
            have p796 : 0 ≤ (x6_1 : Int) := of_decide_eq_true zs_
            have q796 : x6_1 < (l0.length : Int) := of_decide_eq_true zs_
            obtain ⟨ad796, e796, hx796_0⟩ := Kd.at_int HR0.out x6_1 p796 q796
            have hw796_0 := hx796_0
            obtain rfl : ad795 = ad796 := (by injection e796)
            replace hx796_0 := (HB.out.cell (World.block_lt_of_cell? w _ hx796_0)).trans hx796_0
            replace p796 := eq_true p796
            replace q796 := eq_true q796
            have p797 : 0 ≤ (x5_1 : Int) := of_decide_eq_true zs_
            have q797 : x5_1 < (l0.length : Int) := of_decide_eq_true zs_
            obtain ⟨ad797, e797, hx797_0⟩ := Kd.at_int HR0.out x5_1 p797 q797
            have hw797_0 := hx797_0
            obtain rfl : ad795 = ad797 := (by injection e797)
            replace hx797_0 := (HB.out.cell (World.block_lt_of_cell? w _ hx797_0)).trans hx797_0
            replace p797 := eq_true p797
            replace q797 := eq_true q797
            refine start_ (n := 30) (S := fun w' => w'.cell? (ad792.add ((x6_1).toNat * 5)) = some (.slice A792_0 ((rd_T53 l1 x6_1).f0).length c792_0) ∧ w'.cell? ⟨(ad792.add ((x6_1).toNat * 5)).block, (ad792.add ((x6_1).toNat * 5)).off + 1, none⟩ = some (.slice A792_1 ((rd_T53 l1 x6_1).f1).length c792_1) ∧ w'.cell? ⟨(ad792.add ((x6_1).toNat * 5)).block, (ad792.add ((x6_1).toNat * 5)).off + 2, none⟩ = some (.int .i64 ((rd_T53 l1 x6_1).f2)) ∧ w'.cell? ⟨(ad792.add ((x6_1).toNat * 5)).block, (ad792.add ((x6_1).toNat * 5)).off + 3, none⟩ = some (.int .u64 ((rd_T53 l1 x6_1).f3.f0)) ∧ w'.cell? ⟨(ad792.add ((x6_1).toNat * 5)).block, (ad792.add ((x6_1).toNat * 5)).off + 4, none⟩ = some (.int .i64 ((rd_T53 l1 x6_1).f3.f1)) ∧ w'.cell? (ad795.add (x6_1).toNat) = some (.int .i64 (rd l0 x6_1)) ∧ w'.cell? (ad795.add (x6_1).toNat) = some (.int .i64 (rd l0 x6_1)) ∧ w'.cell? (ad795.add (x5_1).toNat) = some (.int .i64 (rd l0 x5_1))) (ds := []) #[F_,F_,F_,F_,F_,F_,F_,F_,F_,F_,F_,F_,F_,F_,F_,F_,F_,F_,F_,F_,F_,F_,F_,F_,F_,F_,F_,F_,F_,F_] (by kernel_rfl) rfl rfl ⟨((HB.out.cell (World.block_lt_of_cell? w _ hw792_0)).trans hw792_0), ((HB.out.cell (World.block_lt_of_cell? w _ hw792_1)).trans hw792_1), ((HB.out.cell (World.block_lt_of_cell? w _ hw792_2)).trans hw792_2), ((HB.out.cell (World.block_lt_of_cell? w _ hw792_3)).trans hw792_3), ((HB.out.cell (World.block_lt_of_cell? w _ hw792_4)).trans hw792_4), ((HB.out.cell (World.block_lt_of_cell? w _ hw795_0)).trans hw795_0), ((HB.out.cell (World.block_lt_of_cell? w _ hw796_0)).trans hw796_0), ((HB.out.cell (World.block_lt_of_cell? w _ hw797_0)).trans hw797_0)⟩ (fun hHeld => ?_); refine with_tabW folkmootref16_Chosen.tab5 folkmootref16_Chosen.bits5 (fun HT_ HW_ => ?_)
            generalize wr.drew = w17 at HB HR792_0 HR792_1 hx792_0 hx792_1 hx792_2 hx792_3 hx792_4 hx795_0 hx796_0 hx797_0 hHeld ⊢
            refine pure_ (i := 0) (N := some 13) (v := ?_) (a' := ?_) #[T_,F_,F_,F_,F_,F_,F_,F_,F_,F_,F_,F_,F_,F_,F_,F_,F_,F_,F_,F_,F_,F_,F_,F_,F_,F_,F_,F_,F_,F_] rfl rfl (any_of HT_.out (by kernel_rfl)) (fun _ _ _ h => h) (Or.inl ⟨by rfl, ?_⟩) ?_ ?_
            rotate_left
            ·
             intro w'; go_simp; with_reducible rfl
            rotate_left
            ·
             exact zp_
            refine pure_ (i := 1) (N := some 14) (v := ?_) (a' := ?_) #[T_,T_,F_,F_,F_,F_,F_,F_,F_,F_,F_,F_,F_,F_,F_,F_,F_,F_,F_,F_,F_,F_,F_,F_,F_,F_,F_,F_,F_,F_] rfl rfl (any_of HT_.out (by kernel_rfl)) (fun _ _ _ h => h) (Or.inl ⟨by rfl, ?_⟩) ?_ ?_
            rotate_left
            ·
             intro w'; go_simp; with_reducible rfl
            rotate_left
            ·
             exact zp_
            refine pure_ (i := 2) (N := some 15) (v := ?_) (a' := ?_) #[T_,T_,T_,F_,F_,F_,F_,F_,F_,F_,F_,F_,F_,F_,F_,F_,F_,F_,F_,F_,F_,F_,F_,F_,F_,F_,F_,F_,F_,F_] rfl rfl (any_of HT_.out (by kernel_rfl)) (fun _ _ _ h => h) (Or.inl ⟨by rfl, ?_⟩) ?_ ?_
            rotate_left
            ·
             intro w'; go_simp; with_reducible rfl
            rotate_left
            ·
             exact zp_
            refine pure_ (i := 3) (N := some 16) (v := ?_) (a' := ?_) #[T_,T_,T_,T_,F_,F_,F_,F_,F_,F_,F_,F_,F_,F_,F_,F_,F_,F_,F_,F_,F_,F_,F_,F_,F_,F_,F_,F_,F_,F_] rfl rfl (any_of HT_.out (by kernel_rfl)) (fun _ _ _ h => h) (Or.inl ⟨by rfl, ?_⟩) ?_ ?_
            rotate_left
            ·
             intro w'; go_simp; with_reducible rfl
            rotate_left
            ·
             exact zp_
            refine pure_ (i := 5) (N := some 18) (v := ?_) (a' := ?_) #[T_,T_,T_,T_,F_,T_,F_,F_,F_,F_,F_,F_,F_,F_,F_,F_,F_,F_,F_,F_,F_,F_,F_,F_,F_,F_,F_,F_,F_,F_] rfl rfl (any_of HT_.out (by kernel_rfl)) (fun _ _ _ h => h) (Or.inl ⟨by rfl, ?_⟩) ?_ ?_
            rotate_left
            ·
             intro w'; go_simp; with_reducible rfl
            rotate_left
            ·
             exact zp_
            refine take_ (i := 4) (N := some 17) (v := ?_) (a' := ?_) #[T_,T_,T_,T_,T_,T_,F_,F_,F_,F_,F_,F_,F_,F_,F_,F_,F_,F_,F_,F_,F_,F_,F_,F_,F_,F_,F_,F_,F_,F_] rfl rfl (take_ofW HT_.out HW_.out (by kernel_rfl)) (fun _ _ _ h => h) (Or.inl ⟨by rfl, ?_⟩) hHeld ?_ ?_
            rotate_left
            ·
             rintro w' ⟨s0, s1, s2, s3, s4, s5, s6, s7⟩
             go_simp
             with_reducible rfl
            rotate_left
            ·
             exact zp_
            refine one_ (i := 6) (N := some 19) #[T_,T_,T_,T_,T_,T_,T_,F_,F_,F_,F_,F_,F_,F_,F_,F_,F_,F_,F_,F_,F_,F_,F_,F_,F_,F_,F_,F_,F_,F_] rfl rfl (one_of HT_.out (by kernel_rfl)) (by decide) (fun K hK => ?_)
            refine goes_ Try.func60 (by kernel_rfl) rfl #[.slice (some ad792) l1.length c1] (by rfl) rfl rfl za_ ?_
            with_reducible refine (folkmootref16_High.calls k1 _ _ l1 t793 t794 _ ?side1 ?side2 A5.out).mono ?_
            (case side1 => exact zc_ HR1 HB)
            (case side2 => exact HC1.out)
            rintro e w18 ⟨rfl, hb⟩
            refine ⟨_, rfl, ?_⟩
            have n0_ := Aside0.mk (below_step zb_ hb)
            clear HB
            have HB := n0_
            clear n0_
            (try clear hb)
            (try clear hb2)
            (try clear hk)
            (try clear hi)
            refine hK.out _ _ ⟨((HB.out.cell (World.block_lt_of_cell? w _ hw792_0)).trans hw792_0), ((HB.out.cell (World.block_lt_of_cell? w _ hw792_1)).trans hw792_1), ((HB.out.cell (World.block_lt_of_cell? w _ hw792_2)).trans hw792_2), ((HB.out.cell (World.block_lt_of_cell? w _ hw792_3)).trans hw792_3), ((HB.out.cell (World.block_lt_of_cell? w _ hw792_4)).trans hw792_4), ((HB.out.cell (World.block_lt_of_cell? w _ hw795_0)).trans hw795_0), ((HB.out.cell (World.block_lt_of_cell? w _ hw796_0)).trans hw796_0), ((HB.out.cell (World.block_lt_of_cell? w _ hw797_0)).trans hw797_0)⟩ (fun hHeld => ?_)
            clear hK K
            refine norm_ (a' := ?_) ?_ ?_
            rotate_left
            ·
             show Act.put _ (some 19) _ = _
             simp only [Act.put, List.setIfInBounds_toArray, List.set_cons_zero, List.set_cons_succ, i64_w, i32_w]
             rfl
            refine pure_ (i := 7) (N := some 20) (v := ?_) (a' := ?_) #[T_,T_,T_,T_,T_,T_,T_,T_,F_,F_,F_,F_,F_,F_,F_,F_,F_,F_,F_,F_,F_,F_,F_,F_,F_,F_,F_,F_,F_,F_] rfl rfl (any_of HT_.out (by kernel_rfl)) (fun _ _ _ h => h) (Or.inl ⟨by rfl, ?_⟩) ?_ ?_
            rotate_left
            ·
             intro w'; go_simp; with_reducible rfl
            rotate_left
            ·
             exact zp_
            refine pure_ (i := 8) (N := some 21) (v := ?_) (a' := ?_) #[T_,T_,T_,T_,T_,T_,T_,T_,T_,F_,F_,F_,F_,F_,F_,F_,F_,F_,F_,F_,F_,F_,F_,F_,F_,F_,F_,F_,F_,F_] rfl rfl (any_of HT_.out (by kernel_rfl)) (fun _ _ _ h => h) (Or.inl ⟨by rfl, ?_⟩) ?_ ?_
            rotate_left
            ·
             intro w'; go_simp; with_reducible rfl
            rotate_left
            ·
             exact zp_
            refine pure_ (i := 9) (N := some 22) (v := ?_) (a' := ?_) #[T_,T_,T_,T_,T_,T_,T_,T_,T_,T_,F_,F_,F_,F_,F_,F_,F_,F_,F_,F_,F_,F_,F_,F_,F_,F_,F_,F_,F_,F_] rfl rfl (any_of HT_.out (by kernel_rfl)) (fun _ _ _ h => h) (Or.inl ⟨by rfl, ?_⟩) ?_ ?_
            rotate_left
            ·
             intro w'; go_simp; with_reducible rfl
            rotate_left
            ·
             exact zp_
            refine pure_ (i := 10) (N := some 23) (v := ?_) (a' := ?_) #[T_,T_,T_,T_,T_,T_,T_,T_,T_,T_,T_,F_,F_,F_,F_,F_,F_,F_,F_,F_,F_,F_,F_,F_,F_,F_,F_,F_,F_,F_] rfl rfl (any_of HT_.out (by kernel_rfl)) (fun _ _ _ h => h) (Or.inl ⟨by rfl, ?_⟩) ?_ ?_
            rotate_left
            ·
             intro w'; go_simp; with_reducible rfl
            rotate_left
            ·
             exact zp_
            refine pure_ (i := 11) (N := some 24) (v := ?_) (a' := ?_) #[T_,T_,T_,T_,T_,T_,T_,T_,T_,T_,T_,T_,F_,F_,F_,F_,F_,F_,F_,F_,F_,F_,F_,F_,F_,F_,F_,F_,F_,F_] rfl rfl (any_of HT_.out (by kernel_rfl)) (fun _ _ _ h => h) (Or.inl ⟨by rfl, ?_⟩) ?_ ?_
            rotate_left
            ·
             intro w'; go_simp; with_reducible rfl
            rotate_left
            ·
             exact zp_
            refine take_ (i := 12) (N := some 25) (v := ?_) (a' := ?_) #[T_,T_,T_,T_,T_,T_,T_,T_,T_,T_,T_,T_,T_,F_,F_,F_,F_,F_,F_,F_,F_,F_,F_,F_,F_,F_,F_,F_,F_,F_] rfl rfl (take_ofW HT_.out HW_.out (by kernel_rfl)) (fun _ _ _ h => h) (Or.inl ⟨by rfl, ?_⟩) hHeld ?_ ?_
            rotate_left
            ·
             rintro w' ⟨s0, s1, s2, s3, s4, s5, s6, s7⟩
             go_simp
             with_reducible rfl
            rotate_left
            ·
             exact zp_
            refine pure_ (i := 13) (N := some 26) (v := ?_) (a' := ?_) #[T_,T_,T_,T_,T_,T_,T_,T_,T_,T_,T_,T_,T_,T_,F_,F_,F_,F_,F_,F_,F_,F_,F_,F_,F_,F_,F_,F_,F_,F_] rfl rfl (any_of HT_.out (by kernel_rfl)) (fun _ _ _ h => h) (Or.inl ⟨by rfl, ?_⟩) ?_ ?_
            rotate_left
            ·
             intro w'; go_simp; with_reducible rfl
            rotate_left
            ·
             exact zp_
            refine pure_ (i := 14) (N := some 27) (v := ?_) (a' := ?_) #[T_,T_,T_,T_,T_,T_,T_,T_,T_,T_,T_,T_,T_,T_,T_,F_,F_,F_,F_,F_,F_,F_,F_,F_,F_,F_,F_,F_,F_,F_] rfl rfl (any_of HT_.out (by kernel_rfl)) (fun _ _ _ h => h) (Or.inl ⟨by rfl, ?_⟩) ?_ ?_
            rotate_left
            ·
             intro w'; go_simp; with_reducible rfl
            rotate_left
            ·
             exact zp_
            refine pure_ (i := 15) (N := some 28) (v := ?_) (a' := ?_) #[T_,T_,T_,T_,T_,T_,T_,T_,T_,T_,T_,T_,T_,T_,T_,T_,F_,F_,F_,F_,F_,F_,F_,F_,F_,F_,F_,F_,F_,F_] rfl rfl (any_of HT_.out (by kernel_rfl)) (fun _ _ _ h => h) (Or.inl ⟨by rfl, ?_⟩) ?_ ?_
            rotate_left
            ·
             intro w'; go_simp; with_reducible rfl
            rotate_left
            ·
             exact zp_
            refine pure_ (i := 16) (N := some 29) (v := ?_) (a' := ?_) #[T_,T_,T_,T_,T_,T_,T_,T_,T_,T_,T_,T_,T_,T_,T_,T_,T_,F_,F_,F_,F_,F_,F_,F_,F_,F_,F_,F_,F_,F_] rfl rfl (any_of HT_.out (by kernel_rfl)) (fun _ _ _ h => h) (Or.inl ⟨by rfl, ?_⟩) ?_ ?_
            rotate_left
            ·
             intro w'; go_simp; with_reducible rfl
            rotate_left
            ·
             exact zp_
            refine pure_ (i := 17) (N := some 30) (v := ?_) (a' := ?_) #[T_,T_,T_,T_,T_,T_,T_,T_,T_,T_,T_,T_,T_,T_,T_,T_,T_,T_,F_,F_,F_,F_,F_,F_,F_,F_,F_,F_,F_,F_] rfl rfl (any_of HT_.out (by kernel_rfl)) (fun _ _ _ h => h) (Or.inl ⟨by rfl, ?_⟩) ?_ ?_
            rotate_left
            ·
             intro w'; go_simp; with_reducible rfl
            rotate_left
            ·
             exact zp_
            refine pure_ (i := 18) (N := some 31) (v := ?_) (a' := ?_) #[T_,T_,T_,T_,T_,T_,T_,T_,T_,T_,T_,T_,T_,T_,T_,T_,T_,T_,T_,F_,F_,F_,F_,F_,F_,F_,F_,F_,F_,F_] rfl rfl (any_of HT_.out (by kernel_rfl)) (fun _ _ _ h => h) (Or.inl ⟨by rfl, ?_⟩) ?_ ?_
            rotate_left
            ·
             intro w'; go_simp; with_reducible rfl
            rotate_left
            ·
             exact zp_
            refine pure_ (i := 19) (N := some 32) (v := ?_) (a' := ?_) #[T_,T_,T_,T_,T_,T_,T_,T_,T_,T_,T_,T_,T_,T_,T_,T_,T_,T_,T_,T_,F_,F_,F_,F_,F_,F_,F_,F_,F_,F_] rfl rfl (any_of HT_.out (by kernel_rfl)) (fun _ _ _ h => h) (Or.inl ⟨by rfl, ?_⟩) ?_ ?_
            rotate_left
            ·
             intro w'; go_simp; with_reducible rfl
            rotate_left
            ·
             exact zp_
            refine pure_ (i := 20) (N := some 33) (v := ?_) (a' := ?_) #[T_,T_,T_,T_,T_,T_,T_,T_,T_,T_,T_,T_,T_,T_,T_,T_,T_,T_,T_,T_,T_,F_,F_,F_,F_,F_,F_,F_,F_,F_] rfl rfl (any_of HT_.out (by kernel_rfl)) (fun _ _ _ h => h) (Or.inl ⟨by rfl, ?_⟩) ?_ ?_
            rotate_left
            ·
             intro w'; go_simp; with_reducible rfl
            rotate_left
            ·
             exact zp_
            refine pure_ (i := 21) (N := some 34) (v := ?_) (a' := ?_) #[T_,T_,T_,T_,T_,T_,T_,T_,T_,T_,T_,T_,T_,T_,T_,T_,T_,T_,T_,T_,T_,T_,F_,F_,F_,F_,F_,F_,F_,F_] rfl rfl (any_of HT_.out (by kernel_rfl)) (fun _ _ _ h => h) (Or.inl ⟨by rfl, ?_⟩) ?_ ?_
            rotate_left
            ·
             intro w'; go_simp; with_reducible rfl
            rotate_left
            ·
             exact zp_
            refine pure_ (i := 23) (N := some 36) (v := ?_) (a' := ?_) #[T_,T_,T_,T_,T_,T_,T_,T_,T_,T_,T_,T_,T_,T_,T_,T_,T_,T_,T_,T_,T_,T_,F_,T_,F_,F_,F_,F_,F_,F_] rfl rfl (any_of HT_.out (by kernel_rfl)) (fun _ _ _ h => h) (Or.inl ⟨by rfl, ?_⟩) ?_ ?_
            rotate_left
            ·
             intro w'; go_simp; with_reducible rfl
            rotate_left
            ·
             exact zp_
            refine pure_ (i := 24) (N := some 37) (v := ?_) (a' := ?_) #[T_,T_,T_,T_,T_,T_,T_,T_,T_,T_,T_,T_,T_,T_,T_,T_,T_,T_,T_,T_,T_,T_,F_,T_,T_,F_,F_,F_,F_,F_] rfl rfl (any_of HT_.out (by kernel_rfl)) (fun _ _ _ h => h) (Or.inl ⟨by rfl, ?_⟩) ?_ ?_
            rotate_left
            ·
             intro w'; go_simp; with_reducible rfl
            rotate_left
            ·
             exact zp_
            refine pure_ (i := 25) (N := some 38) (v := ?_) (a' := ?_) #[T_,T_,T_,T_,T_,T_,T_,T_,T_,T_,T_,T_,T_,T_,T_,T_,T_,T_,T_,T_,T_,T_,F_,T_,T_,T_,F_,F_,F_,F_] rfl rfl (any_of HT_.out (by kernel_rfl)) (fun _ _ _ h => h) (Or.inl ⟨by rfl, ?_⟩) ?_ ?_
            rotate_left
            ·
             intro w'; go_simp; with_reducible rfl
            rotate_left
            ·
             exact zp_
            refine take_ (i := 22) (N := some 35) (v := ?_) (a' := ?_) #[T_,T_,T_,T_,T_,T_,T_,T_,T_,T_,T_,T_,T_,T_,T_,T_,T_,T_,T_,T_,T_,T_,T_,T_,T_,T_,F_,F_,F_,F_] rfl rfl (take_ofW HT_.out HW_.out (by kernel_rfl)) (fun _ _ _ h => h) (Or.inl ⟨by rfl, ?_⟩) hHeld ?_ ?_
            rotate_left
            ·
             rintro w' ⟨s0, s1, s2, s3, s4, s5, s6, s7⟩
             go_simp
             with_reducible rfl
            rotate_left
            ·
             exact zp_
            refine take_ (i := 26) (N := some 39) (v := ?_) (a' := ?_) #[T_,T_,T_,T_,T_,T_,T_,T_,T_,T_,T_,T_,T_,T_,T_,T_,T_,T_,T_,T_,T_,T_,T_,T_,T_,T_,T_,F_,F_,F_] rfl rfl (take_ofW HT_.out HW_.out (by kernel_rfl)) (fun _ _ _ h => h) (Or.inl ⟨by rfl, ?_⟩) hHeld ?_ ?_
            rotate_left
            ·
             rintro w' ⟨s0, s1, s2, s3, s4, s5, s6, s7⟩
             go_simp
             with_reducible rfl
            rotate_left
            ·
             exact zp_
            refine pure_ (i := 27) (N := some 40) (v := ?_) (a' := ?_) #[T_,T_,T_,T_,T_,T_,T_,T_,T_,T_,T_,T_,T_,T_,T_,T_,T_,T_,T_,T_,T_,T_,T_,T_,T_,T_,T_,T_,F_,F_] rfl rfl (any_of HT_.out (by kernel_rfl)) (fun _ _ _ h => h) (Or.inl ⟨by rfl, ?_⟩) ?_ ?_
            rotate_left
            ·
             intro w'; go_simp; with_reducible rfl
            rotate_left
            ·
             exact zp_
            refine pure_ (i := 28) (N := some 41) (v := ?_) (a' := ?_) #[T_,T_,T_,T_,T_,T_,T_,T_,T_,T_,T_,T_,T_,T_,T_,T_,T_,T_,T_,T_,T_,T_,T_,T_,T_,T_,T_,T_,T_,F_] rfl rfl (any_of HT_.out (by kernel_rfl)) (fun _ _ _ h => h) (Or.inl ⟨by rfl, ?_⟩) ?_ ?_
            rotate_left
            ·
             intro w'; go_simp; with_reducible rfl
            rotate_left
            ·
             exact zp_
            refine pure_ (i := 29) (N := some 42) (v := ?_) (a' := ?_) #[T_,T_,T_,T_,T_,T_,T_,T_,T_,T_,T_,T_,T_,T_,T_,T_,T_,T_,T_,T_,T_,T_,T_,T_,T_,T_,T_,T_,T_,T_] rfl rfl (any_of HT_.out (by kernel_rfl)) (fun _ _ _ h => h) (Or.inl ⟨by rfl, ?_⟩) ?_ ?_
            rotate_left
            ·
             intro w'; go_simp; with_reducible rfl
            rotate_left
            ·
             exact zp_
            refine done_ (done_of HT_.out (by kernel_rfl)) ?_
            (try clear hHeld); (try clear HS0_)
            try go_wp2
            go_roundg k1
            case measure => have := HK1.out; omega
            case rel => exact ⟨(x5_1), (wrap64 (x6_1 + 1)), (by first | rfl | (simp; done) | (simp [*]; done)), (by first | rfl | (simp; done) | (simp [*]; done)), H', ⟨by have := HK1.out; omega⟩, ⟨by repeat (first | (with_reducible first | exact HB.out | apply below_alloc | apply pw_below_drewN | apply below_drew1) | exact HB.out)⟩⟩
          ·
           rw [if_neg c13] at H
           exact absurd H (by simp)
         ·
          rw [if_neg c12] at H
          exact absurd H (by simp)
       ·
        rw [if_neg c8] at H
        have c8b0 : decide (0 ≤ (rd l0 x6_1)) = false := decide_eq_false c8
        clear c8
        have H' := Aside0.mk H
        clear H
        try go_wp2
        have n0_ := Aside0.mk (below_drew1 HB.out)
        clear HB
        have HB := n0_
        clear n0_
        have p792 : 0 ≤ (x6_1 : Int) := of_decide_eq_true zs_
        have q792 : x6_1 < (l1.length : Int) := of_decide_eq_true zs_
        obtain ⟨ad792, A792_0, c792_0, A792_1, c792_1, e792, hx792_0, hx792_1, hx792_2, hx792_3, hx792_4, hl792_0, hi792_0, hl792_1, hi792_1⟩ := at_T53 HR1.out x6_1 p792 q792
        have hw792_4 := hx792_4
        have hw792_3 := hx792_3
        have hw792_2 := hx792_2
        have hw792_1 := hx792_1
        have hw792_0 := hx792_0
        cases e792
        replace hx792_0 := (HB.out.cell (World.block_lt_of_cell? w _ hx792_0)).trans hx792_0
        replace hx792_1 := (HB.out.cell (World.block_lt_of_cell? w _ hx792_1)).trans hx792_1
        replace hx792_2 := (HB.out.cell (World.block_lt_of_cell? w _ hx792_2)).trans hx792_2
        replace hx792_3 := (HB.out.cell (World.block_lt_of_cell? w _ hx792_3)).trans hx792_3
        replace hx792_4 := (HB.out.cell (World.block_lt_of_cell? w _ hx792_4)).trans hx792_4
        have HR792_0 := Aside0.mk hi792_0
        have HC792_0 := Aside0.mk hl792_0
        clear hi792_0 hl792_0
        have HR792_1 := Aside0.mk hi792_1
        have HC792_1 := Aside0.mk hl792_1
        clear hi792_1 hl792_1
        replace p792 := eq_true p792
        replace q792 := eq_true q792
        have p795 : 0 ≤ (x6_1 : Int) := of_decide_eq_true zs_
        have q795 : x6_1 < (l0.length : Int) := of_decide_eq_true zs_
        obtain ⟨ad795, e795, hx795_0⟩ := Kd.at_int HR0.out x6_1 p795 q795
        have hw795_0 := hx795_0
        cases e795
        replace hx795_0 := (HB.out.cell (World.block_lt_of_cell? w _ hx795_0)).trans hx795_0
        replace p795 := eq_true p795
        replace q795 := eq_true q795
        refine start_ (n := 30) (S := fun w' => w'.cell? (ad792.add ((x6_1).toNat * 5)) = some (.slice A792_0 ((rd_T53 l1 x6_1).f0).length c792_0) ∧ w'.cell? ⟨(ad792.add ((x6_1).toNat * 5)).block, (ad792.add ((x6_1).toNat * 5)).off + 1, none⟩ = some (.slice A792_1 ((rd_T53 l1 x6_1).f1).length c792_1) ∧ w'.cell? ⟨(ad792.add ((x6_1).toNat * 5)).block, (ad792.add ((x6_1).toNat * 5)).off + 2, none⟩ = some (.int .i64 ((rd_T53 l1 x6_1).f2)) ∧ w'.cell? ⟨(ad792.add ((x6_1).toNat * 5)).block, (ad792.add ((x6_1).toNat * 5)).off + 3, none⟩ = some (.int .u64 ((rd_T53 l1 x6_1).f3.f0)) ∧ w'.cell? ⟨(ad792.add ((x6_1).toNat * 5)).block, (ad792.add ((x6_1).toNat * 5)).off + 4, none⟩ = some (.int .i64 ((rd_T53 l1 x6_1).f3.f1)) ∧ w'.cell? (ad795.add (x6_1).toNat) = some (.int .i64 (rd l0 x6_1))) (ds := []) #[F_,F_,F_,F_,F_,F_,F_,F_,F_,F_,F_,F_,F_,F_,F_,F_,F_,F_,F_,F_,F_,F_,F_,F_,F_,F_,F_,F_,F_,F_] (by kernel_rfl) rfl rfl ⟨((HB.out.cell (World.block_lt_of_cell? w _ hw792_0)).trans hw792_0), ((HB.out.cell (World.block_lt_of_cell? w _ hw792_1)).trans hw792_1), ((HB.out.cell (World.block_lt_of_cell? w _ hw792_2)).trans hw792_2), ((HB.out.cell (World.block_lt_of_cell? w _ hw792_3)).trans hw792_3), ((HB.out.cell (World.block_lt_of_cell? w _ hw792_4)).trans hw792_4), ((HB.out.cell (World.block_lt_of_cell? w _ hw795_0)).trans hw795_0)⟩ (fun hHeld => ?_); refine with_tabW folkmootref16_Chosen.tab5 folkmootref16_Chosen.bits5 (fun HT_ HW_ => ?_)
        generalize wr.drew = w19 at HB HR792_0 HR792_1 hx792_0 hx792_1 hx792_2 hx792_3 hx792_4 hx795_0 hHeld ⊢
        refine pure_ (i := 0) (N := some 13) (v := ?_) (a' := ?_) #[T_,F_,F_,F_,F_,F_,F_,F_,F_,F_,F_,F_,F_,F_,F_,F_,F_,F_,F_,F_,F_,F_,F_,F_,F_,F_,F_,F_,F_,F_] rfl rfl (any_of HT_.out (by kernel_rfl)) (fun _ _ _ h => h) (Or.inl ⟨by rfl, ?_⟩) ?_ ?_
        rotate_left
        ·
         intro w'; go_simp; with_reducible rfl
        rotate_left
        ·
         exact zp_
        refine pure_ (i := 1) (N := some 14) (v := ?_) (a' := ?_) #[T_,T_,F_,F_,F_,F_,F_,F_,F_,F_,F_,F_,F_,F_,F_,F_,F_,F_,F_,F_,F_,F_,F_,F_,F_,F_,F_,F_,F_,F_] rfl rfl (any_of HT_.out (by kernel_rfl)) (fun _ _ _ h => h) (Or.inl ⟨by rfl, ?_⟩) ?_ ?_
        rotate_left
        ·
         intro w'; go_simp; with_reducible rfl
        rotate_left
        ·
         exact zp_
        refine pure_ (i := 2) (N := some 15) (v := ?_) (a' := ?_) #[T_,T_,T_,F_,F_,F_,F_,F_,F_,F_,F_,F_,F_,F_,F_,F_,F_,F_,F_,F_,F_,F_,F_,F_,F_,F_,F_,F_,F_,F_] rfl rfl (any_of HT_.out (by kernel_rfl)) (fun _ _ _ h => h) (Or.inl ⟨by rfl, ?_⟩) ?_ ?_
        rotate_left
        ·
         intro w'; go_simp; with_reducible rfl
        rotate_left
        ·
         exact zp_
        refine pure_ (i := 3) (N := some 16) (v := ?_) (a' := ?_) #[T_,T_,T_,T_,F_,F_,F_,F_,F_,F_,F_,F_,F_,F_,F_,F_,F_,F_,F_,F_,F_,F_,F_,F_,F_,F_,F_,F_,F_,F_] rfl rfl (any_of HT_.out (by kernel_rfl)) (fun _ _ _ h => h) (Or.inl ⟨by rfl, ?_⟩) ?_ ?_
        rotate_left
        ·
         intro w'; go_simp; with_reducible rfl
        rotate_left
        ·
         exact zp_
        refine pure_ (i := 5) (N := some 18) (v := ?_) (a' := ?_) #[T_,T_,T_,T_,F_,T_,F_,F_,F_,F_,F_,F_,F_,F_,F_,F_,F_,F_,F_,F_,F_,F_,F_,F_,F_,F_,F_,F_,F_,F_] rfl rfl (any_of HT_.out (by kernel_rfl)) (fun _ _ _ h => h) (Or.inl ⟨by rfl, ?_⟩) ?_ ?_
        rotate_left
        ·
         intro w'; go_simp; with_reducible rfl
        rotate_left
        ·
         exact zp_
        refine take_ (i := 4) (N := some 17) (v := ?_) (a' := ?_) #[T_,T_,T_,T_,T_,T_,F_,F_,F_,F_,F_,F_,F_,F_,F_,F_,F_,F_,F_,F_,F_,F_,F_,F_,F_,F_,F_,F_,F_,F_] rfl rfl (take_ofW HT_.out HW_.out (by kernel_rfl)) (fun _ _ _ h => h) (Or.inl ⟨by rfl, ?_⟩) hHeld ?_ ?_
        rotate_left
        ·
         rintro w' ⟨s0, s1, s2, s3, s4, s5⟩
         go_simp
         with_reducible rfl
        rotate_left
        ·
         exact zp_
        refine one_ (i := 6) (N := some 19) #[T_,T_,T_,T_,T_,T_,T_,F_,F_,F_,F_,F_,F_,F_,F_,F_,F_,F_,F_,F_,F_,F_,F_,F_,F_,F_,F_,F_,F_,F_] rfl rfl (one_of HT_.out (by kernel_rfl)) (by decide) (fun K hK => ?_)
        refine goes_ Try.func60 (by kernel_rfl) rfl #[.slice (some ad792) l1.length c1] (by rfl) rfl rfl za_ ?_
        with_reducible refine (folkmootref16_High.calls k1 _ _ l1 t793 t794 _ ?side1 ?side2 A5.out).mono ?_
        (case side1 => exact zc_ HR1 HB)
        (case side2 => exact HC1.out)
        rintro e w20 ⟨rfl, hb⟩
        refine ⟨_, rfl, ?_⟩
        have n0_ := Aside0.mk (below_step zb_ hb)
        clear HB
        have HB := n0_
        clear n0_
        (try clear hb)
        (try clear hb2)
        (try clear hk)
        (try clear hi)
        refine hK.out _ _ ⟨((HB.out.cell (World.block_lt_of_cell? w _ hw792_0)).trans hw792_0), ((HB.out.cell (World.block_lt_of_cell? w _ hw792_1)).trans hw792_1), ((HB.out.cell (World.block_lt_of_cell? w _ hw792_2)).trans hw792_2), ((HB.out.cell (World.block_lt_of_cell? w _ hw792_3)).trans hw792_3), ((HB.out.cell (World.block_lt_of_cell? w _ hw792_4)).trans hw792_4), ((HB.out.cell (World.block_lt_of_cell? w _ hw795_0)).trans hw795_0)⟩ (fun hHeld => ?_)
        clear hK K
        refine norm_ (a' := ?_) ?_ ?_
        rotate_left
        ·
         show Act.put _ (some 19) _ = _
         simp only [Act.put, List.setIfInBounds_toArray, List.set_cons_zero, List.set_cons_succ, i64_w, i32_w]
         rfl
        refine pure_ (i := 7) (N := some 20) (v := ?_) (a' := ?_) #[T_,T_,T_,T_,T_,T_,T_,T_,F_,F_,F_,F_,F_,F_,F_,F_,F_,F_,F_,F_,F_,F_,F_,F_,F_,F_,F_,F_,F_,F_] rfl rfl (any_of HT_.out (by kernel_rfl)) (fun _ _ _ h => h) (Or.inl ⟨by rfl, ?_⟩) ?_ ?_
        rotate_left
        ·
         intro w'; go_simp; with_reducible rfl
        rotate_left
        ·
         exact zp_
        refine pure_ (i := 8) (N := some 21) (v := ?_) (a' := ?_) #[T_,T_,T_,T_,T_,T_,T_,T_,T_,F_,F_,F_,F_,F_,F_,F_,F_,F_,F_,F_,F_,F_,F_,F_,F_,F_,F_,F_,F_,F_] rfl rfl (any_of HT_.out (by kernel_rfl)) (fun _ _ _ h => h) (Or.inl ⟨by rfl, ?_⟩) ?_ ?_
        rotate_left
        ·
         intro w'; go_simp; with_reducible rfl
        rotate_left
        ·
         exact zp_
        refine pure_ (i := 9) (N := some 22) (v := ?_) (a' := ?_) #[T_,T_,T_,T_,T_,T_,T_,T_,T_,T_,F_,F_,F_,F_,F_,F_,F_,F_,F_,F_,F_,F_,F_,F_,F_,F_,F_,F_,F_,F_] rfl rfl (any_of HT_.out (by kernel_rfl)) (fun _ _ _ h => h) (Or.inl ⟨by rfl, ?_⟩) ?_ ?_
        rotate_left
        ·
         intro w'; go_simp; with_reducible rfl
        rotate_left
        ·
         exact zp_
        refine pure_ (i := 10) (N := some 23) (v := ?_) (a' := ?_) #[T_,T_,T_,T_,T_,T_,T_,T_,T_,T_,T_,F_,F_,F_,F_,F_,F_,F_,F_,F_,F_,F_,F_,F_,F_,F_,F_,F_,F_,F_] rfl rfl (any_of HT_.out (by kernel_rfl)) (fun _ _ _ h => h) (Or.inl ⟨by rfl, ?_⟩) ?_ ?_
        rotate_left
        ·
         intro w'; go_simp; with_reducible rfl
        rotate_left
        ·
         exact zp_
        refine pure_ (i := 11) (N := some 24) (v := ?_) (a' := ?_) #[T_,T_,T_,T_,T_,T_,T_,T_,T_,T_,T_,T_,F_,F_,F_,F_,F_,F_,F_,F_,F_,F_,F_,F_,F_,F_,F_,F_,F_,F_] rfl rfl (any_of HT_.out (by kernel_rfl)) (fun _ _ _ h => h) (Or.inl ⟨by rfl, ?_⟩) ?_ ?_
        rotate_left
        ·
         intro w'; go_simp; with_reducible rfl
        rotate_left
        ·
         exact zp_
        refine take_ (i := 12) (N := some 25) (v := ?_) (a' := ?_) #[T_,T_,T_,T_,T_,T_,T_,T_,T_,T_,T_,T_,T_,F_,F_,F_,F_,F_,F_,F_,F_,F_,F_,F_,F_,F_,F_,F_,F_,F_] rfl rfl (take_ofW HT_.out HW_.out (by kernel_rfl)) (fun _ _ _ h => h) (Or.inl ⟨by rfl, ?_⟩) hHeld ?_ ?_
        rotate_left
        ·
         rintro w' ⟨s0, s1, s2, s3, s4, s5⟩
         go_simp
         with_reducible rfl
        rotate_left
        ·
         exact zp_
        refine pure_ (i := 13) (N := some 26) (v := ?_) (a' := ?_) #[T_,T_,T_,T_,T_,T_,T_,T_,T_,T_,T_,T_,T_,T_,F_,F_,F_,F_,F_,F_,F_,F_,F_,F_,F_,F_,F_,F_,F_,F_] rfl rfl (any_of HT_.out (by kernel_rfl)) (fun _ _ _ h => h) (Or.inl ⟨by rfl, ?_⟩) ?_ ?_
        rotate_left
        ·
         intro w'; go_simp; with_reducible rfl
        rotate_left
        ·
         exact zp_
        refine pure_ (i := 14) (N := some 27) (v := ?_) (a' := ?_) #[T_,T_,T_,T_,T_,T_,T_,T_,T_,T_,T_,T_,T_,T_,T_,F_,F_,F_,F_,F_,F_,F_,F_,F_,F_,F_,F_,F_,F_,F_] rfl rfl (any_of HT_.out (by kernel_rfl)) (fun _ _ _ h => h) (Or.inl ⟨by rfl, ?_⟩) ?_ ?_
        rotate_left
        ·
         intro w'; go_simp; with_reducible rfl
        rotate_left
        ·
         exact zp_
        refine pure_ (i := 15) (N := some 28) (v := ?_) (a' := ?_) #[T_,T_,T_,T_,T_,T_,T_,T_,T_,T_,T_,T_,T_,T_,T_,T_,F_,F_,F_,F_,F_,F_,F_,F_,F_,F_,F_,F_,F_,F_] rfl rfl (any_of HT_.out (by kernel_rfl)) (fun _ _ _ h => h) (Or.inl ⟨by rfl, ?_⟩) ?_ ?_
        rotate_left
        ·
         intro w'; go_simp; with_reducible rfl
        rotate_left
        ·
         exact zp_
        refine pure_ (i := 16) (N := some 29) (v := undef) (a' := ?_) #[T_,T_,T_,T_,T_,T_,T_,T_,T_,T_,T_,T_,T_,T_,T_,T_,T_,F_,F_,F_,F_,F_,F_,F_,F_,F_,F_,F_,F_,F_] rfl rfl (any_of HT_.out (by kernel_rfl)) (fun _ _ _ h => h) (Or.inr ⟨by rfl, rfl⟩) ?_ ?_
        rotate_left
        ·
         exact zp_
        refine pure_ (i := 17) (N := some 30) (v := undef) (a' := ?_) #[T_,T_,T_,T_,T_,T_,T_,T_,T_,T_,T_,T_,T_,T_,T_,T_,T_,T_,F_,F_,F_,F_,F_,F_,F_,F_,F_,F_,F_,F_] rfl rfl (any_of HT_.out (by kernel_rfl)) (fun _ _ _ h => h) (Or.inr ⟨by rfl, rfl⟩) ?_ ?_
        rotate_left
        ·
         exact zp_
        refine pure_ (i := 18) (N := some 31) (v := undef) (a' := ?_) #[T_,T_,T_,T_,T_,T_,T_,T_,T_,T_,T_,T_,T_,T_,T_,T_,T_,T_,T_,F_,F_,F_,F_,F_,F_,F_,F_,F_,F_,F_] rfl rfl (any_of HT_.out (by kernel_rfl)) (fun _ _ _ h => h) (Or.inr ⟨by rfl, rfl⟩) ?_ ?_
        rotate_left
        ·
         exact zp_
        refine pure_ (i := 19) (N := some 32) (v := undef) (a' := ?_) #[T_,T_,T_,T_,T_,T_,T_,T_,T_,T_,T_,T_,T_,T_,T_,T_,T_,T_,T_,T_,F_,F_,F_,F_,F_,F_,F_,F_,F_,F_] rfl rfl (any_of HT_.out (by kernel_rfl)) (fun _ _ _ h => h) (Or.inr ⟨by rfl, rfl⟩) ?_ ?_
        rotate_left
        ·
         exact zp_
        refine pure_ (i := 20) (N := some 33) (v := undef) (a' := ?_) #[T_,T_,T_,T_,T_,T_,T_,T_,T_,T_,T_,T_,T_,T_,T_,T_,T_,T_,T_,T_,T_,F_,F_,F_,F_,F_,F_,F_,F_,F_] rfl rfl (any_of HT_.out (by kernel_rfl)) (fun _ _ _ h => h) (Or.inr ⟨by rfl, rfl⟩) ?_ ?_
        rotate_left
        ·
         exact zp_
        refine pure_ (i := 21) (N := some 34) (v := undef) (a' := ?_) #[T_,T_,T_,T_,T_,T_,T_,T_,T_,T_,T_,T_,T_,T_,T_,T_,T_,T_,T_,T_,T_,T_,F_,F_,F_,F_,F_,F_,F_,F_] rfl rfl (any_of HT_.out (by kernel_rfl)) (fun _ _ _ h => h) (Or.inr ⟨by rfl, rfl⟩) ?_ ?_
        rotate_left
        ·
         exact zp_
        refine pure_ (i := 22) (N := some 35) (v := undef) (a' := ?_) #[T_,T_,T_,T_,T_,T_,T_,T_,T_,T_,T_,T_,T_,T_,T_,T_,T_,T_,T_,T_,T_,T_,T_,F_,F_,F_,F_,F_,F_,F_] rfl rfl (any_of HT_.out (by kernel_rfl)) (fun _ _ _ h => h) (Or.inr ⟨by rfl, rfl⟩) ?_ ?_
        rotate_left
        ·
         exact zp_
        refine pure_ (i := 23) (N := some 36) (v := undef) (a' := ?_) #[T_,T_,T_,T_,T_,T_,T_,T_,T_,T_,T_,T_,T_,T_,T_,T_,T_,T_,T_,T_,T_,T_,T_,T_,F_,F_,F_,F_,F_,F_] rfl rfl (any_of HT_.out (by kernel_rfl)) (fun _ _ _ h => h) (Or.inr ⟨by rfl, rfl⟩) ?_ ?_
        rotate_left
        ·
         exact zp_
        refine pure_ (i := 24) (N := some 37) (v := undef) (a' := ?_) #[T_,T_,T_,T_,T_,T_,T_,T_,T_,T_,T_,T_,T_,T_,T_,T_,T_,T_,T_,T_,T_,T_,T_,T_,T_,F_,F_,F_,F_,F_] rfl rfl (any_of HT_.out (by kernel_rfl)) (fun _ _ _ h => h) (Or.inr ⟨by rfl, rfl⟩) ?_ ?_
        rotate_left
        ·
         exact zp_
        refine pure_ (i := 25) (N := some 38) (v := undef) (a' := ?_) #[T_,T_,T_,T_,T_,T_,T_,T_,T_,T_,T_,T_,T_,T_,T_,T_,T_,T_,T_,T_,T_,T_,T_,T_,T_,T_,F_,F_,F_,F_] rfl rfl (any_of HT_.out (by kernel_rfl)) (fun _ _ _ h => h) (Or.inr ⟨by rfl, rfl⟩) ?_ ?_
        rotate_left
        ·
         exact zp_
        refine pure_ (i := 26) (N := some 39) (v := undef) (a' := ?_) #[T_,T_,T_,T_,T_,T_,T_,T_,T_,T_,T_,T_,T_,T_,T_,T_,T_,T_,T_,T_,T_,T_,T_,T_,T_,T_,T_,F_,F_,F_] rfl rfl (any_of HT_.out (by kernel_rfl)) (fun _ _ _ h => h) (Or.inr ⟨by rfl, rfl⟩) ?_ ?_
        rotate_left
        ·
         exact zp_
        refine pure_ (i := 27) (N := some 40) (v := undef) (a' := ?_) #[T_,T_,T_,T_,T_,T_,T_,T_,T_,T_,T_,T_,T_,T_,T_,T_,T_,T_,T_,T_,T_,T_,T_,T_,T_,T_,T_,T_,F_,F_] rfl rfl (any_of HT_.out (by kernel_rfl)) (fun _ _ _ h => h) (Or.inr ⟨by rfl, rfl⟩) ?_ ?_
        rotate_left
        ·
         exact zp_
        refine pure_ (i := 28) (N := some 41) (v := undef) (a' := ?_) #[T_,T_,T_,T_,T_,T_,T_,T_,T_,T_,T_,T_,T_,T_,T_,T_,T_,T_,T_,T_,T_,T_,T_,T_,T_,T_,T_,T_,T_,F_] rfl rfl (any_of HT_.out (by kernel_rfl)) (fun _ _ _ h => h) (Or.inr ⟨by rfl, rfl⟩) ?_ ?_
        rotate_left
        ·
         exact zp_
        refine pure_ (i := 29) (N := some 42) (v := ?_) (a' := ?_) #[T_,T_,T_,T_,T_,T_,T_,T_,T_,T_,T_,T_,T_,T_,T_,T_,T_,T_,T_,T_,T_,T_,T_,T_,T_,T_,T_,T_,T_,T_] rfl rfl (any_of HT_.out (by kernel_rfl)) (fun _ _ _ h => h) (Or.inl ⟨by rfl, ?_⟩) ?_ ?_
        rotate_left
        ·
         intro w'; go_simp; with_reducible rfl
        rotate_left
        ·
         exact zp_
        refine done_ (done_of HT_.out (by kernel_rfl)) ?_
        (try clear hHeld); (try clear HS0_)
        try go_wp2
        go_roundg k1
        case measure => have := HK1.out; omega
        case rel => exact ⟨(x5_1), (wrap64 (x6_1 + 1)), (by first | rfl | (simp; done) | (simp [*]; done)), (by first | rfl | (simp; done) | (simp [*]; done)), H', ⟨by have := HK1.out; omega⟩, ⟨by repeat (first | (with_reducible first | exact HB.out | apply below_alloc | apply pw_below_drewN | apply below_drew1) | exact HB.out)⟩⟩
      ·
       rw [if_neg c7] at H
       exact absurd H (by simp)
     ·
      rw [if_neg c6] at H
      have c6b0 : (((rd_T53 l1 x6_1).f3.f0) == t793 && (((rd_T53 l1 x6_1).f3.f1) == t794)) = false := by simpa using c6
      (try (have c6b1 : decide (((rd_T53 l1 x6_1).f3.f0) = t793 && (((rd_T53 l1 x6_1).f3.f1) == t794)) = false := by simpa using c6))
      (try (have c6b2 : (((rd_T53 l1 x6_1).f3.f0) == t793 && (((rd_T53 l1 x6_1).f3.f1) == t794)) = false := by simpa using c6))
      (try (have c6b3 : ¬ (((rd_T53 l1 x6_1).f3.f0) = t793 && (((rd_T53 l1 x6_1).f3.f1) == t794)) := by simpa using c6))
      clear c6
      have H' := Aside0.mk H
      clear H
      try go_wp2
      have n0_ := Aside0.mk (below_drew1 HB.out)
      clear HB
      have HB := n0_
      clear n0_
      have p792 : 0 ≤ (x6_1 : Int) := of_decide_eq_true zs_
      have q792 : x6_1 < (l1.length : Int) := of_decide_eq_true zs_
      obtain ⟨ad792, A792_0, c792_0, A792_1, c792_1, e792, hx792_0, hx792_1, hx792_2, hx792_3, hx792_4, hl792_0, hi792_0, hl792_1, hi792_1⟩ := at_T53 HR1.out x6_1 p792 q792
      have hw792_4 := hx792_4
      have hw792_3 := hx792_3
      have hw792_2 := hx792_2
      have hw792_1 := hx792_1
      have hw792_0 := hx792_0
      cases e792
      replace hx792_0 := (HB.out.cell (World.block_lt_of_cell? w _ hx792_0)).trans hx792_0
      replace hx792_1 := (HB.out.cell (World.block_lt_of_cell? w _ hx792_1)).trans hx792_1
      replace hx792_2 := (HB.out.cell (World.block_lt_of_cell? w _ hx792_2)).trans hx792_2
      replace hx792_3 := (HB.out.cell (World.block_lt_of_cell? w _ hx792_3)).trans hx792_3
      replace hx792_4 := (HB.out.cell (World.block_lt_of_cell? w _ hx792_4)).trans hx792_4
      have HR792_0 := Aside0.mk hi792_0
      have HC792_0 := Aside0.mk hl792_0
      clear hi792_0 hl792_0
      have HR792_1 := Aside0.mk hi792_1
      have HC792_1 := Aside0.mk hl792_1
      clear hi792_1 hl792_1
      replace p792 := eq_true p792
      replace q792 := eq_true q792
      refine start_ (n := 30) (S := fun w' => w'.cell? (ad792.add ((x6_1).toNat * 5)) = some (.slice A792_0 ((rd_T53 l1 x6_1).f0).length c792_0) ∧ w'.cell? ⟨(ad792.add ((x6_1).toNat * 5)).block, (ad792.add ((x6_1).toNat * 5)).off + 1, none⟩ = some (.slice A792_1 ((rd_T53 l1 x6_1).f1).length c792_1) ∧ w'.cell? ⟨(ad792.add ((x6_1).toNat * 5)).block, (ad792.add ((x6_1).toNat * 5)).off + 2, none⟩ = some (.int .i64 ((rd_T53 l1 x6_1).f2)) ∧ w'.cell? ⟨(ad792.add ((x6_1).toNat * 5)).block, (ad792.add ((x6_1).toNat * 5)).off + 3, none⟩ = some (.int .u64 ((rd_T53 l1 x6_1).f3.f0)) ∧ w'.cell? ⟨(ad792.add ((x6_1).toNat * 5)).block, (ad792.add ((x6_1).toNat * 5)).off + 4, none⟩ = some (.int .i64 ((rd_T53 l1 x6_1).f3.f1))) (ds := []) #[F_,F_,F_,F_,F_,F_,F_,F_,F_,F_,F_,F_,F_,F_,F_,F_,F_,F_,F_,F_,F_,F_,F_,F_,F_,F_,F_,F_,F_,F_] (by kernel_rfl) rfl rfl ⟨((HB.out.cell (World.block_lt_of_cell? w _ hw792_0)).trans hw792_0), ((HB.out.cell (World.block_lt_of_cell? w _ hw792_1)).trans hw792_1), ((HB.out.cell (World.block_lt_of_cell? w _ hw792_2)).trans hw792_2), ((HB.out.cell (World.block_lt_of_cell? w _ hw792_3)).trans hw792_3), ((HB.out.cell (World.block_lt_of_cell? w _ hw792_4)).trans hw792_4)⟩ (fun hHeld => ?_); refine with_tabW folkmootref16_Chosen.tab5 folkmootref16_Chosen.bits5 (fun HT_ HW_ => ?_)
      generalize wr.drew = w21 at HB HR792_0 HR792_1 hx792_0 hx792_1 hx792_2 hx792_3 hx792_4 hHeld ⊢
      refine pure_ (i := 0) (N := some 13) (v := ?_) (a' := ?_) #[T_,F_,F_,F_,F_,F_,F_,F_,F_,F_,F_,F_,F_,F_,F_,F_,F_,F_,F_,F_,F_,F_,F_,F_,F_,F_,F_,F_,F_,F_] rfl rfl (any_of HT_.out (by kernel_rfl)) (fun _ _ _ h => h) (Or.inl ⟨by rfl, ?_⟩) ?_ ?_
      rotate_left
      ·
       intro w'; go_simp; with_reducible rfl
      rotate_left
      ·
       exact zp_
      refine pure_ (i := 1) (N := some 14) (v := ?_) (a' := ?_) #[T_,T_,F_,F_,F_,F_,F_,F_,F_,F_,F_,F_,F_,F_,F_,F_,F_,F_,F_,F_,F_,F_,F_,F_,F_,F_,F_,F_,F_,F_] rfl rfl (any_of HT_.out (by kernel_rfl)) (fun _ _ _ h => h) (Or.inl ⟨by rfl, ?_⟩) ?_ ?_
      rotate_left
      ·
       intro w'; go_simp; with_reducible rfl
      rotate_left
      ·
       exact zp_
      refine pure_ (i := 2) (N := some 15) (v := ?_) (a' := ?_) #[T_,T_,T_,F_,F_,F_,F_,F_,F_,F_,F_,F_,F_,F_,F_,F_,F_,F_,F_,F_,F_,F_,F_,F_,F_,F_,F_,F_,F_,F_] rfl rfl (any_of HT_.out (by kernel_rfl)) (fun _ _ _ h => h) (Or.inl ⟨by rfl, ?_⟩) ?_ ?_
      rotate_left
      ·
       intro w'; go_simp; with_reducible rfl
      rotate_left
      ·
       exact zp_
      refine pure_ (i := 3) (N := some 16) (v := ?_) (a' := ?_) #[T_,T_,T_,T_,F_,F_,F_,F_,F_,F_,F_,F_,F_,F_,F_,F_,F_,F_,F_,F_,F_,F_,F_,F_,F_,F_,F_,F_,F_,F_] rfl rfl (any_of HT_.out (by kernel_rfl)) (fun _ _ _ h => h) (Or.inl ⟨by rfl, ?_⟩) ?_ ?_
      rotate_left
      ·
       intro w'; go_simp; with_reducible rfl
      rotate_left
      ·
       exact zp_
      refine pure_ (i := 5) (N := some 18) (v := ?_) (a' := ?_) #[T_,T_,T_,T_,F_,T_,F_,F_,F_,F_,F_,F_,F_,F_,F_,F_,F_,F_,F_,F_,F_,F_,F_,F_,F_,F_,F_,F_,F_,F_] rfl rfl (any_of HT_.out (by kernel_rfl)) (fun _ _ _ h => h) (Or.inl ⟨by rfl, ?_⟩) ?_ ?_
      rotate_left
      ·
       intro w'; go_simp; with_reducible rfl
      rotate_left
      ·
       exact zp_
      refine take_ (i := 4) (N := some 17) (v := ?_) (a' := ?_) #[T_,T_,T_,T_,T_,T_,F_,F_,F_,F_,F_,F_,F_,F_,F_,F_,F_,F_,F_,F_,F_,F_,F_,F_,F_,F_,F_,F_,F_,F_] rfl rfl (take_ofW HT_.out HW_.out (by kernel_rfl)) (fun _ _ _ h => h) (Or.inl ⟨by rfl, ?_⟩) hHeld ?_ ?_
      rotate_left
      ·
       rintro w' ⟨s0, s1, s2, s3, s4⟩
       go_simp
       with_reducible rfl
      rotate_left
      ·
       exact zp_
      refine one_ (i := 6) (N := some 19) #[T_,T_,T_,T_,T_,T_,T_,F_,F_,F_,F_,F_,F_,F_,F_,F_,F_,F_,F_,F_,F_,F_,F_,F_,F_,F_,F_,F_,F_,F_] rfl rfl (one_of HT_.out (by kernel_rfl)) (by decide) (fun K hK => ?_)
      refine goes_ Try.func60 (by kernel_rfl) rfl #[.slice (some ad792) l1.length c1] (by rfl) rfl rfl za_ ?_
      with_reducible refine (folkmootref16_High.calls k1 _ _ l1 t793 t794 _ ?side1 ?side2 A5.out).mono ?_
      (case side1 => exact zc_ HR1 HB)
      (case side2 => exact HC1.out)
      rintro e w22 ⟨rfl, hb⟩
      refine ⟨_, rfl, ?_⟩
      have n0_ := Aside0.mk (below_step zb_ hb)
      clear HB
      have HB := n0_
      clear n0_
      (try clear hb)
      (try clear hb2)
      (try clear hk)
      (try clear hi)
      refine hK.out _ _ ⟨((HB.out.cell (World.block_lt_of_cell? w _ hw792_0)).trans hw792_0), ((HB.out.cell (World.block_lt_of_cell? w _ hw792_1)).trans hw792_1), ((HB.out.cell (World.block_lt_of_cell? w _ hw792_2)).trans hw792_2), ((HB.out.cell (World.block_lt_of_cell? w _ hw792_3)).trans hw792_3), ((HB.out.cell (World.block_lt_of_cell? w _ hw792_4)).trans hw792_4)⟩ (fun hHeld => ?_)
      clear hK K
      refine norm_ (a' := ?_) ?_ ?_
      rotate_left
      ·
       show Act.put _ (some 19) _ = _
       simp only [Act.put, List.setIfInBounds_toArray, List.set_cons_zero, List.set_cons_succ, i64_w, i32_w]
       rfl
      refine pure_ (i := 7) (N := some 20) (v := ?_) (a' := ?_) #[T_,T_,T_,T_,T_,T_,T_,T_,F_,F_,F_,F_,F_,F_,F_,F_,F_,F_,F_,F_,F_,F_,F_,F_,F_,F_,F_,F_,F_,F_] rfl rfl (any_of HT_.out (by kernel_rfl)) (fun _ _ _ h => h) (Or.inl ⟨by rfl, ?_⟩) ?_ ?_
      rotate_left
      ·
       intro w'; go_simp; with_reducible rfl
      rotate_left
      ·
       exact zp_
      refine pure_ (i := 8) (N := some 21) (v := ?_) (a' := ?_) #[T_,T_,T_,T_,T_,T_,T_,T_,T_,F_,F_,F_,F_,F_,F_,F_,F_,F_,F_,F_,F_,F_,F_,F_,F_,F_,F_,F_,F_,F_] rfl rfl (any_of HT_.out (by kernel_rfl)) (fun _ _ _ h => h) (Or.inl ⟨by rfl, ?_⟩) ?_ ?_
      rotate_left
      ·
       intro w'; go_simp; with_reducible rfl
      rotate_left
      ·
       exact zp_
      refine pure_ (i := 9) (N := some 22) (v := undef) (a' := ?_) #[T_,T_,T_,T_,T_,T_,T_,T_,T_,T_,F_,F_,F_,F_,F_,F_,F_,F_,F_,F_,F_,F_,F_,F_,F_,F_,F_,F_,F_,F_] rfl rfl (any_of HT_.out (by kernel_rfl)) (fun _ _ _ h => h) (Or.inr ⟨by rfl, rfl⟩) ?_ ?_
      rotate_left
      ·
       exact zp_
      refine pure_ (i := 10) (N := some 23) (v := undef) (a' := ?_) #[T_,T_,T_,T_,T_,T_,T_,T_,T_,T_,T_,F_,F_,F_,F_,F_,F_,F_,F_,F_,F_,F_,F_,F_,F_,F_,F_,F_,F_,F_] rfl rfl (any_of HT_.out (by kernel_rfl)) (fun _ _ _ h => h) (Or.inr ⟨by rfl, rfl⟩) ?_ ?_
      rotate_left
      ·
       exact zp_
      refine pure_ (i := 11) (N := some 24) (v := undef) (a' := ?_) #[T_,T_,T_,T_,T_,T_,T_,T_,T_,T_,T_,T_,F_,F_,F_,F_,F_,F_,F_,F_,F_,F_,F_,F_,F_,F_,F_,F_,F_,F_] rfl rfl (any_of HT_.out (by kernel_rfl)) (fun _ _ _ h => h) (Or.inr ⟨by rfl, rfl⟩) ?_ ?_
      rotate_left
      ·
       exact zp_
      refine pure_ (i := 12) (N := some 25) (v := undef) (a' := ?_) #[T_,T_,T_,T_,T_,T_,T_,T_,T_,T_,T_,T_,T_,F_,F_,F_,F_,F_,F_,F_,F_,F_,F_,F_,F_,F_,F_,F_,F_,F_] rfl rfl (any_of HT_.out (by kernel_rfl)) (fun _ _ _ h => h) (Or.inr ⟨by rfl, rfl⟩) ?_ ?_
      rotate_left
      ·
       exact zp_
      refine pure_ (i := 13) (N := some 26) (v := undef) (a' := ?_) #[T_,T_,T_,T_,T_,T_,T_,T_,T_,T_,T_,T_,T_,T_,F_,F_,F_,F_,F_,F_,F_,F_,F_,F_,F_,F_,F_,F_,F_,F_] rfl rfl (any_of HT_.out (by kernel_rfl)) (fun _ _ _ h => h) (Or.inr ⟨by rfl, rfl⟩) ?_ ?_
      rotate_left
      ·
       exact zp_
      refine pure_ (i := 14) (N := some 27) (v := ?_) (a' := ?_) #[T_,T_,T_,T_,T_,T_,T_,T_,T_,T_,T_,T_,T_,T_,T_,F_,F_,F_,F_,F_,F_,F_,F_,F_,F_,F_,F_,F_,F_,F_] rfl rfl (any_of HT_.out (by kernel_rfl)) (fun _ _ _ h => h) (Or.inl ⟨by rfl, ?_⟩) ?_ ?_
      rotate_left
      ·
       intro w'; go_simp; with_reducible rfl
      rotate_left
      ·
       exact zp_
      refine pure_ (i := 15) (N := some 28) (v := ?_) (a' := ?_) #[T_,T_,T_,T_,T_,T_,T_,T_,T_,T_,T_,T_,T_,T_,T_,T_,F_,F_,F_,F_,F_,F_,F_,F_,F_,F_,F_,F_,F_,F_] rfl rfl (any_of HT_.out (by kernel_rfl)) (fun _ _ _ h => h) (Or.inl ⟨by rfl, ?_⟩) ?_ ?_
      rotate_left
      ·
       intro w'; go_simp; with_reducible rfl
      rotate_left
      ·
       exact zp_
      refine pure_ (i := 16) (N := some 29) (v := undef) (a' := ?_) #[T_,T_,T_,T_,T_,T_,T_,T_,T_,T_,T_,T_,T_,T_,T_,T_,T_,F_,F_,F_,F_,F_,F_,F_,F_,F_,F_,F_,F_,F_] rfl rfl (any_of HT_.out (by kernel_rfl)) (fun _ _ _ h => h) (Or.inr ⟨by rfl, rfl⟩) ?_ ?_
      rotate_left
      ·
       exact zp_
      refine pure_ (i := 17) (N := some 30) (v := undef) (a' := ?_) #[T_,T_,T_,T_,T_,T_,T_,T_,T_,T_,T_,T_,T_,T_,T_,T_,T_,T_,F_,F_,F_,F_,F_,F_,F_,F_,F_,F_,F_,F_] rfl rfl (any_of HT_.out (by kernel_rfl)) (fun _ _ _ h => h) (Or.inr ⟨by rfl, rfl⟩) ?_ ?_
      rotate_left
      ·
       exact zp_
      refine pure_ (i := 18) (N := some 31) (v := undef) (a' := ?_) #[T_,T_,T_,T_,T_,T_,T_,T_,T_,T_,T_,T_,T_,T_,T_,T_,T_,T_,T_,F_,F_,F_,F_,F_,F_,F_,F_,F_,F_,F_] rfl rfl (any_of HT_.out (by kernel_rfl)) (fun _ _ _ h => h) (Or.inr ⟨by rfl, rfl⟩) ?_ ?_
      rotate_left
      ·
       exact zp_
      refine pure_ (i := 19) (N := some 32) (v := undef) (a' := ?_) #[T_,T_,T_,T_,T_,T_,T_,T_,T_,T_,T_,T_,T_,T_,T_,T_,T_,T_,T_,T_,F_,F_,F_,F_,F_,F_,F_,F_,F_,F_] rfl rfl (any_of HT_.out (by kernel_rfl)) (fun _ _ _ h => h) (Or.inr ⟨by rfl, rfl⟩) ?_ ?_
      rotate_left
      ·
       exact zp_
      refine pure_ (i := 20) (N := some 33) (v := undef) (a' := ?_) #[T_,T_,T_,T_,T_,T_,T_,T_,T_,T_,T_,T_,T_,T_,T_,T_,T_,T_,T_,T_,T_,F_,F_,F_,F_,F_,F_,F_,F_,F_] rfl rfl (any_of HT_.out (by kernel_rfl)) (fun _ _ _ h => h) (Or.inr ⟨by rfl, rfl⟩) ?_ ?_
      rotate_left
      ·
       exact zp_
      refine pure_ (i := 21) (N := some 34) (v := undef) (a' := ?_) #[T_,T_,T_,T_,T_,T_,T_,T_,T_,T_,T_,T_,T_,T_,T_,T_,T_,T_,T_,T_,T_,T_,F_,F_,F_,F_,F_,F_,F_,F_] rfl rfl (any_of HT_.out (by kernel_rfl)) (fun _ _ _ h => h) (Or.inr ⟨by rfl, rfl⟩) ?_ ?_
      rotate_left
      ·
       exact zp_
      refine pure_ (i := 22) (N := some 35) (v := undef) (a' := ?_) #[T_,T_,T_,T_,T_,T_,T_,T_,T_,T_,T_,T_,T_,T_,T_,T_,T_,T_,T_,T_,T_,T_,T_,F_,F_,F_,F_,F_,F_,F_] rfl rfl (any_of HT_.out (by kernel_rfl)) (fun _ _ _ h => h) (Or.inr ⟨by rfl, rfl⟩) ?_ ?_
      rotate_left
      ·
       exact zp_
      refine pure_ (i := 23) (N := some 36) (v := undef) (a' := ?_) #[T_,T_,T_,T_,T_,T_,T_,T_,T_,T_,T_,T_,T_,T_,T_,T_,T_,T_,T_,T_,T_,T_,T_,T_,F_,F_,F_,F_,F_,F_] rfl rfl (any_of HT_.out (by kernel_rfl)) (fun _ _ _ h => h) (Or.inr ⟨by rfl, rfl⟩) ?_ ?_
      rotate_left
      ·
       exact zp_
      refine pure_ (i := 24) (N := some 37) (v := undef) (a' := ?_) #[T_,T_,T_,T_,T_,T_,T_,T_,T_,T_,T_,T_,T_,T_,T_,T_,T_,T_,T_,T_,T_,T_,T_,T_,T_,F_,F_,F_,F_,F_] rfl rfl (any_of HT_.out (by kernel_rfl)) (fun _ _ _ h => h) (Or.inr ⟨by rfl, rfl⟩) ?_ ?_
      rotate_left
      ·
       exact zp_
      refine pure_ (i := 25) (N := some 38) (v := undef) (a' := ?_) #[T_,T_,T_,T_,T_,T_,T_,T_,T_,T_,T_,T_,T_,T_,T_,T_,T_,T_,T_,T_,T_,T_,T_,T_,T_,T_,F_,F_,F_,F_] rfl rfl (any_of HT_.out (by kernel_rfl)) (fun _ _ _ h => h) (Or.inr ⟨by rfl, rfl⟩) ?_ ?_
      rotate_left
      ·
       exact zp_
      refine pure_ (i := 26) (N := some 39) (v := undef) (a' := ?_) #[T_,T_,T_,T_,T_,T_,T_,T_,T_,T_,T_,T_,T_,T_,T_,T_,T_,T_,T_,T_,T_,T_,T_,T_,T_,T_,T_,F_,F_,F_] rfl rfl (any_of HT_.out (by kernel_rfl)) (fun _ _ _ h => h) (Or.inr ⟨by rfl, rfl⟩) ?_ ?_
      rotate_left
      ·
       exact zp_
      refine pure_ (i := 27) (N := some 40) (v := undef) (a' := ?_) #[T_,T_,T_,T_,T_,T_,T_,T_,T_,T_,T_,T_,T_,T_,T_,T_,T_,T_,T_,T_,T_,T_,T_,T_,T_,T_,T_,T_,F_,F_] rfl rfl (any_of HT_.out (by kernel_rfl)) (fun _ _ _ h => h) (Or.inr ⟨by rfl, rfl⟩) ?_ ?_
      rotate_left
      ·
       exact zp_
      refine pure_ (i := 28) (N := some 41) (v := undef) (a' := ?_) #[T_,T_,T_,T_,T_,T_,T_,T_,T_,T_,T_,T_,T_,T_,T_,T_,T_,T_,T_,T_,T_,T_,T_,T_,T_,T_,T_,T_,T_,F_] rfl rfl (any_of HT_.out (by kernel_rfl)) (fun _ _ _ h => h) (Or.inr ⟨by rfl, rfl⟩) ?_ ?_
      rotate_left
      ·
       exact zp_
      refine pure_ (i := 29) (N := some 42) (v := ?_) (a' := ?_) #[T_,T_,T_,T_,T_,T_,T_,T_,T_,T_,T_,T_,T_,T_,T_,T_,T_,T_,T_,T_,T_,T_,T_,T_,T_,T_,T_,T_,T_,T_] rfl rfl (any_of HT_.out (by kernel_rfl)) (fun _ _ _ h => h) (Or.inl ⟨by rfl, ?_⟩) ?_ ?_
      rotate_left
      ·
       intro w'; go_simp; with_reducible rfl
      rotate_left
      ·
       exact zp_
      refine done_ (done_of HT_.out (by kernel_rfl)) ?_
      (try clear hHeld); (try clear HS0_)
      try go_wp2
      go_roundg k1
      case measure => have := HK1.out; omega
      case rel => exact ⟨(x5_1), (wrap64 (x6_1 + 1)), (by first | rfl | (simp; done) | (simp [*]; done)), (by first | rfl | (simp; done) | (simp [*]; done)), H', ⟨by have := HK1.out; omega⟩, ⟨by repeat (first | (with_reducible first | exact HB.out | apply below_alloc | apply pw_below_drewN | apply below_drew1) | exact HB.out)⟩⟩
    ·
     rw [if_neg c4] at H
     exact absurd H (by simp)
   ·
    rw [if_neg c3] at H
    have c3b0 : decide (x6_1 < (l1.length : Int)) = false := decide_eq_false c3
    clear c3
    obtain rfl := Option.some.inj H
    go_wp2
    go_ret
    exact ⟨by first | rfl | (simp [errW_none, errW_some] <;> rfl) | (simp [*, errW_none, errW_some] <;> rfl), by repeat (first | (with_reducible first | exact HB.out | apply below_alloc | apply pw_below_drewN | apply below_drew1) | exact HB.out)⟩
end Go.Proofs.Ytioooiflpabngaa.PAll
end
section
namespace Go.Proofs.Ytioooiflpabngaa.PAll
open Go.RowKit Go.Proofs.YtioooiflpabngaaW.PrintWords Go.Proofs.YtioooiflpabngaaW.PrintLast Go.Proofs.YtioooiflpabngaaW.PrintMore
attribute [local go_sem] max2_int min2_int max_two min_two max_three min_three max_four min_four   -- for this text's walks alone
set_option linter.unusedVariables false
set_option linter.unusedSimpArgs false
def folkmootref16_Next.l0 : Nat → List (S53) → Int → Int → Option (Int)
 | 0, _, _, _ => none
 | k + 1, x0, x3, x4 => if x4 < (x0.length : Int) then (if 0 ≤ x4 then (if ((rd_T53 x0 x4).f2) > x3 then (folkmootref16_Next.l0 k x0 ((rd_T53 x0 x4).f2) (wrap64 (x4 + 1))) else (folkmootref16_Next.l0 k x0 x3 (wrap64 (x4 + 1)))) else (none)) else (some x3)
def folkmootref16_Next.f (k : Nat) (l0 : List (S53)) : Option (Int) := folkmootref16_Next.l0 k l0 1 0
set_option maxHeartbeats 8000000 in
set_option maxRecDepth 100000 in
theorem folkmootref16_Next.calls (k : Nat) (A0 : Option Addr) (c0 : Nat) (l0 : List (S53)) (r : Int) (w : World) (hr0 : Kd.C k53 w A0 l0.length l0) (hc0 : l0.length ≤ c0) (h : folkmootref16_Next.f k l0 = some r) :
  Calls Try.prog 69 #[.slice A0 l0.length c0] w fun e w' => e = .returned (.int .i64 r) ∧ Drawn0 w w' := by
 have HR0 := Aside0.mk hr0
 have HC0 := Aside0.mk hc0
 clear hr0 hc0
 have H : (folkmootref16_Next.l0 k l0 1 0) = some r := h
 clear h
 have H' := Aside0.mk H
 clear H
 go_enter Try.func69, Try.ntmps69
 go_wp2
 go_loopg [3, 4] k (fun kq v3 v4 w' => ∃ (x3_1 : Int) (x4_1 : Int), v3 = .int .i64 x3_1 ∧ v4 = .int .i64 x4_1 ∧ Aside0 (folkmootref16_Next.l0 kq l0 x3_1 x4_1 = some r) ∧ Aside0 (kq ≤ k) ∧ Drawn0 w w')
 case atStart => exact ⟨(1), (0), (by first | rfl | (simp; done) | (simp [*]; done)), (by first | rfl | (simp; done) | (simp [*]; done)), H', ⟨Nat.le_refl _⟩, by repeat (first | exact Drawn0.refl _ | apply Drawn0.step)⟩
 case round =>
  clear H'
  obtain ⟨x3_1, x4_1, rfl, rfl, HA, HK1, ⟨m1, rfl⟩⟩ := hrel
  cases gk with
  | zero => exact absurd HA.out (by simp [folkmootref16_Next.l0])
  | succ k1 =>
   have H := HA.out
   clear HA
   simp only [folkmootref16_Next.l0] at H
   by_cases c2 : x4_1 < (l0.length : Int)
   ·
    rw [if_pos c2] at H
    have c2b0 : decide (x4_1 < (l0.length : Int)) = true := decide_eq_true c2
    clear c2
    by_cases c3 : 0 ≤ x4_1
    ·
     rw [if_pos c3] at H
     have c3b0 : decide (0 ≤ x4_1) = true := decide_eq_true c3
     clear c3
     by_cases c4 : ((rd_T53 l0 x4_1).f2) > x3_1
     ·
      rw [if_pos c4] at H
      have c4b0 : decide (x3_1 < ((rd_T53 l0 x4_1).f2)) = true := decide_eq_true c4
      clear c4
      have H' := Aside0.mk H
      clear H
      have p833 : 0 ≤ (x4_1 : Int) := of_decide_eq_true zs_
      have q833 : x4_1 < (l0.length : Int) := of_decide_eq_true zs_
      obtain ⟨ad833, A833_0, c833_0, A833_1, c833_1, e833, hx833_0, hx833_1, hx833_2, hx833_3, hx833_4, hl833_0, hi833_0, hl833_1, hi833_1⟩ := at_T53 HR0.out x4_1 p833 q833
      cases e833
      have HR833_0 := Aside0.mk hi833_0
      have HC833_0 := Aside0.mk hl833_0
      clear hi833_0 hl833_0
      have HR833_1 := Aside0.mk hi833_1
      have HC833_1 := Aside0.mk hl833_1
      clear hi833_1 hl833_1
      replace p833 := eq_true p833
      replace q833 := eq_true q833
      have p834 : 0 ≤ (x4_1 : Int) := of_decide_eq_true zs_
      have q834 : x4_1 < (l0.length : Int) := of_decide_eq_true zs_
      obtain ⟨ad834, A834_0, c834_0, A834_1, c834_1, e834, hx834_0, hx834_1, hx834_2, hx834_3, hx834_4, hl834_0, hi834_0, hl834_1, hi834_1⟩ := at_T53 HR0.out x4_1 p834 q834
      obtain rfl : ad833 = ad834 := (by injection e834)
      have HR834_0 := Aside0.mk hi834_0
      have HC834_0 := Aside0.mk hl834_0
      clear hi834_0 hl834_0
      have HR834_1 := Aside0.mk hi834_1
      have HC834_1 := Aside0.mk hl834_1
      clear hi834_1 hl834_1
      replace p834 := eq_true p834
      replace q834 := eq_true q834
      have ea_ := Option.some.inj (hx833_0.symm.trans hx834_0)
      injection ea_ with ea_ en_ ec_
      subst ea_
      subst ec_
      clear en_
      have ea_ := Option.some.inj (hx833_1.symm.trans hx834_1)
      injection ea_ with ea_ en_ ec_
      subst ea_
      subst ec_
      clear en_
      go_wp2
      go_roundg k1
      case measure => have := HK1.out; omega
      case rel => exact ⟨((rd_T53 l0 x4_1).f2), (wrap64 (x4_1 + 1)), (by first | rfl | (simp; done) | (simp [*]; done)), (by first | rfl | (simp; done) | (simp [*]; done)), H', ⟨by have := HK1.out; omega⟩, by repeat (first | exact Drawn0.refl _ | apply Drawn0.step)⟩
     ·
      rw [if_neg c4] at H
      have c4b0 : decide (x3_1 < ((rd_T53 l0 x4_1).f2)) = false := decide_eq_false c4
      clear c4
      have H' := Aside0.mk H
      clear H
      have p833 : 0 ≤ (x4_1 : Int) := of_decide_eq_true zs_
      have q833 : x4_1 < (l0.length : Int) := of_decide_eq_true zs_
      obtain ⟨ad833, A833_0, c833_0, A833_1, c833_1, e833, hx833_0, hx833_1, hx833_2, hx833_3, hx833_4, hl833_0, hi833_0, hl833_1, hi833_1⟩ := at_T53 HR0.out x4_1 p833 q833
      cases e833
      have HR833_0 := Aside0.mk hi833_0
      have HC833_0 := Aside0.mk hl833_0
      clear hi833_0 hl833_0
      have HR833_1 := Aside0.mk hi833_1
      have HC833_1 := Aside0.mk hl833_1
      clear hi833_1 hl833_1
      replace p833 := eq_true p833
      replace q833 := eq_true q833
      go_wp2
      go_roundg k1
      case measure => have := HK1.out; omega
      case rel => exact ⟨(x3_1), (wrap64 (x4_1 + 1)), (by first | rfl | (simp; done) | (simp [*]; done)), (by first | rfl | (simp; done) | (simp [*]; done)), H', ⟨by have := HK1.out; omega⟩, by repeat (first | exact Drawn0.refl _ | apply Drawn0.step)⟩
    ·
     rw [if_neg c3] at H
     exact absurd H (by simp)
   ·
    rw [if_neg c2] at H
    have c2b0 : decide (x4_1 < (l0.length : Int)) = false := decide_eq_false c2
    clear c2
    obtain rfl := Option.some.inj H
    go_wp2
    go_ret
    exact ⟨by first | rfl | (simp; done) | (simp [*]; done), by repeat (first | exact Drawn0.refl _ | apply Drawn0.step)⟩
end Go.Proofs.Ytioooiflpabngaa.PAll
end
section
namespace Go.Proofs.Ytioooiflpabngaa.PAll
open Go.RowKit Go.Proofs.YtioooiflpabngaaW.PrintWords Go.Proofs.YtioooiflpabngaaW.PrintMore
set_option linter.unusedVariables false
set_option linter.unusedSimpArgs false
theorem rdT_nat {l : List S87} {n : Nat} (h : n < l.length) : rd_T87 l (n : Int) = l[n] := by
  unfold rd_T87
  rw [List.getD_eq_getElem?_getD, Int.toNat_natCast, List.getElem?_eq_getElem h]
  rfl
theorem rdS_nat {l : List S53} {n : Nat} (h : n < l.length) : rd_T53 l (n : Int) = l[n] := by
  unfold rd_T53
  rw [List.getD_eq_getElem?_getD, Int.toNat_natCast, List.getElem?_eq_getElem h]
  rfl
theorem rdI_nat {l : List Int} {n : Nat} (h : n < l.length) : rd l (n : Int) = l[n] := by
  unfold rd
  rw [List.getD_eq_getElem?_getD, Int.toNat_natCast, List.getElem?_eq_getElem h]
  rfl
def hiStep (v x : S25) : S25 := if cmpV x v > 0 then x else v
def hiV (l : List S25) : S25 := l.foldl hiStep ⟨0, 0⟩
theorem above_eq (a b : S25) : ident_Above.f a.f0 a.f1 b.f0 b.f1 = some (decide (cmpV a b > 0)) := by
  unfold ident_Above.f
  rw [ident_Compare_eq, Option.bind_some]
theorem high_loop (l : List S87) (hl : l.length < 9223372036854775807) : ∀ (d i : Nat) (v : S25), d = l.length - i → i ≤ l.length → Ev (fun k => exchange_High.l0 k l (l.length : Int) (i : Int) v.f0 v.f1) ((((l.drop i).map fun t => t.f1.f3).foldl hiStep v).f0, (((l.drop i).map fun t => t.f1.f3).foldl hiStep v).f1) := by
  intro d
  induction d with
  | zero =>
    intro i v hd hi
    have : i = l.length := by omega
    subst this
    rw [List.drop_length]
    exact Ev.step (fun k => by rw [exchange_High.l0, if_neg (by omega)]; rfl) (Ev.const fun _ => rfl)
  | succ d ih =>
    intro i v hd hi
    have hlt : i < l.length := by omega
    rw [List.drop_eq_getElem_cons hlt, List.map_cons, List.foldl_cons]
    have h1 := ih (i + 1) (hiStep v l[i].f1.f3) (by omega) (by omega)
    refine Ev.step (b := fun k => exchange_High.l0 k l (l.length : Int) ((i + 1 : Nat) : Int) (hiStep v l[i].f1.f3).f0 (hiStep v l[i].f1.f3).f1) (fun k => ?_) h1
    rw [exchange_High.l0, if_pos (by omega), if_pos (by omega), if_pos (by omega), rdT_nat hlt, above_eq, Option.bind_some, wrap_nat (by omega)]
    unfold hiStep
    by_cases hc : cmpV l[i].f1.f3 v > 0
    · simp only [hc, decide_true, if_true]
    · simp only [hc, decide_false, Bool.false_eq_true, if_false]
theorem high_ev (l : List S87) (hl : l.length < 9223372036854775807) : Ev (fun k => exchange_High.f k l) ((hiV (l.map fun t => t.f1.f3)).f0, (hiV (l.map fun t => t.f1.f3)).f1) := by
  have := high_loop l hl l.length 0 ⟨0, 0⟩ (by omega) (by omega)
  simpa [exchange_High.f, hiV] using this
theorem refHigh_loop (l : List S53) (hl : l.length < 9223372036854775807) : ∀ (d i : Nat) (v : S25), d = l.length - i → i ≤ l.length → Ev (fun k => folkmootref16_High.l0 k l (i : Int) v.f0 v.f1) ((((l.drop i).map fun t => t.f3).foldl hiStep v).f0, (((l.drop i).map fun t => t.f3).foldl hiStep v).f1) := by
  intro d
  induction d with
  | zero =>
    intro i v hd hi
    have : i = l.length := by omega
    subst this
    rw [List.drop_length]
    exact Ev.step (fun k => by rw [folkmootref16_High.l0, if_neg (by omega)]; rfl) (Ev.const fun _ => rfl)
  | succ d ih =>
    intro i v hd hi
    have hlt : i < l.length := by omega
    rw [List.drop_eq_getElem_cons hlt, List.map_cons, List.foldl_cons]
    have h1 := ih (i + 1) (hiStep v l[i].f3) (by omega) (by omega)
    refine Ev.step (b := fun k => (folkmootref04_Compare.f k l[i].f3.f0 l[i].f3.f1 v.f0 v.f1).bind fun t => if t > 0 then folkmootref16_High.l0 k l ((i + 1 : Nat) : Int) l[i].f3.f0 l[i].f3.f1 else folkmootref16_High.l0 k l ((i + 1 : Nat) : Int) v.f0 v.f1) (fun k => ?_) (Ev.bind (refCompare_ev l[i].f3 v) ?_)
    · rw [folkmootref16_High.l0, if_pos (by omega), if_pos (by omega), rdS_nat hlt, wrap_nat (by omega)]
    · unfold hiStep at h1 ⊢
      by_cases hc : cmpV l[i].f3 v > 0
      · simp only [hc, if_true] at h1 ⊢
        exact h1
      · simp only [hc, if_false] at h1 ⊢
        exact h1
theorem refHigh_ev (l : List S53) (hl : l.length < 9223372036854775807) : Ev (fun k => folkmootref16_High.f k l) ((hiV (l.map fun t => t.f3)).f0, (hiV (l.map fun t => t.f3)).f1) := by
  have := refHigh_loop l hl l.length 0 ⟨0, 0⟩ (by omega) (by omega)
  simpa [folkmootref16_High.f, hiV] using this
def eqV (a b : S25) : Bool := a.f0 == b.f0 && (a.f1 == b.f1)
def chStep (v : S25) (b : Int) (t : S87) : Int := if eqV t.f1.f3 v = true then mx b t.f0 else b
def chosenT (l : List S87) : Int := l.foldl (chStep (hiV (l.map fun t => t.f1.f3))) (-1)
theorem chosen_loop (l : List S87) (hl : l.length < 9223372036854775807) : ∀ (d i : Nat) (b : Int), d = l.length - i → i ≤ l.length → Ev (fun k => exchange_Chosen.l0 k l b l (l.length : Int) (i : Int)) ((l.drop i).foldl (chStep (hiV (l.map fun t => t.f1.f3))) b) := by
  intro d
  induction d with
  | zero =>
    intro i b hd hi
    have : i = l.length := by omega
    subst this
    rw [List.drop_length]
    exact Ev.step (fun k => by rw [exchange_Chosen.l0, if_neg (by omega)]; rfl) (Ev.const fun _ => rfl)
  | succ d ih =>
    intro i b hd hi
    have hlt : i < l.length := by omega
    rw [List.drop_eq_getElem_cons hlt, List.foldl_cons]
    have h1 := ih (i + 1) (chStep (hiV (l.map fun t => t.f1.f3)) b l[i]) (by omega) (by omega)
    refine Ev.step (b := fun k => (exchange_High.f k l).bind fun bt => if ((l[i].f1.f3.f0) == bt.1 && ((l[i].f1.f3.f1) == bt.2)) = true then exchange_Chosen.l0 k l (mx b l[i].f0) l (l.length : Int) ((i + 1 : Nat) : Int) else exchange_Chosen.l0 k l b l (l.length : Int) ((i + 1 : Nat) : Int)) (fun k => ?_) (Ev.bind (high_ev l hl) ?_)
    · rw [exchange_Chosen.l0, if_pos (by omega), if_pos (by omega), if_pos (by omega), rdT_nat hlt, wrap_nat (by omega)]
    · unfold chStep at h1 ⊢
      show Ev (fun k => if eqV l[i].f1.f3 (hiV (l.map fun t => t.f1.f3)) = true then _ else _) _
      by_cases hc : eqV l[i].f1.f3 (hiV (l.map fun t => t.f1.f3)) = true
      · simp only [hc, if_true] at h1 ⊢
        exact h1
      · rw [Bool.not_eq_true] at hc
        simp only [hc, Bool.false_eq_true, if_false] at h1 ⊢
        exact h1
theorem chosen_ev (l : List S87) (hl : l.length < 9223372036854775807) : Ev (fun k => exchange_Chosen.f k l) (chosenT l) := by
  have := chosen_loop l hl l.length 0 (-1) (by omega) (by omega)
  simpa [exchange_Chosen.f, chosenT] using this
def nextT (l : List Int) : Int := l.foldl mx 1
theorem next_loop (l : List S87) (hl : l.length < 9223372036854775807) : ∀ (d i : Nat) (b : Int), d = l.length - i → i ≤ l.length → Ev (fun k => exchange_Next.l0 k b l (l.length : Int) (i : Int)) (((l.drop i).map fun t => t.f1.f2).foldl mx b) := by
  intro d
  induction d with
  | zero =>
    intro i b hd hi
    have : i = l.length := by omega
    subst this
    rw [List.drop_length]
    exact Ev.step (fun k => by rw [exchange_Next.l0, if_neg (by omega)]; rfl) (Ev.const fun _ => rfl)
  | succ d ih =>
    intro i b hd hi
    have hlt : i < l.length := by omega
    rw [List.drop_eq_getElem_cons hlt, List.map_cons, List.foldl_cons]
    refine Ev.step (b := fun k => exchange_Next.l0 k (mx b l[i].f1.f2) l (l.length : Int) ((i + 1 : Nat) : Int)) (fun k => ?_) (ih (i + 1) (mx b l[i].f1.f2) (by omega) (by omega))
    rw [exchange_Next.l0, if_pos (by omega), if_pos (by omega), if_pos (by omega), rdT_nat hlt, wrap_nat (by omega)]
theorem next_ev (l : List S87) (hl : l.length < 9223372036854775807) : Ev (fun k => exchange_Next.f k l) (nextT (l.map fun t => t.f1.f2)) := by
  have := next_loop l hl l.length 0 1 (by omega) (by omega)
  simpa [exchange_Next.f, nextT] using this
theorem refNext_loop (l : List S53) (hl : l.length < 9223372036854775807) : ∀ (d i : Nat) (b : Int), d = l.length - i → i ≤ l.length → Ev (fun k => folkmootref16_Next.l0 k l b (i : Int)) (((l.drop i).map fun t => t.f2).foldl mx b) := by
  intro d
  induction d with
  | zero =>
    intro i b hd hi
    have : i = l.length := by omega
    subst this
    rw [List.drop_length]
    exact Ev.step (fun k => by rw [folkmootref16_Next.l0, if_neg (by omega)]; rfl) (Ev.const fun _ => rfl)
  | succ d ih =>
    intro i b hd hi
    have hlt : i < l.length := by omega
    rw [List.drop_eq_getElem_cons hlt, List.map_cons, List.foldl_cons]
    refine Ev.step (b := fun k => folkmootref16_Next.l0 k l (mx b l[i].f2) ((i + 1 : Nat) : Int)) (fun k => ?_) (ih (i + 1) (mx b l[i].f2) (by omega) (by omega))
    rw [folkmootref16_Next.l0, if_pos (by omega), if_pos (by omega), rdS_nat hlt, wrap_nat (by omega)]
    unfold mx
    by_cases hc : l[i].f2 > b
    · rw [if_pos hc, if_pos (by omega)]
    · rw [if_neg hc, if_neg (by omega)]
theorem refNext_ev (l : List S53) (hl : l.length < 9223372036854775807) : Ev (fun k => folkmootref16_Next.f k l) (nextT (l.map fun t => t.f2)) := by
  have := refNext_loop l hl l.length 0 1 (by omega) (by omega)
  simpa [folkmootref16_Next.f, nextT] using this
end Go.Proofs.Ytioooiflpabngaa.PAll
end
section
namespace Go.Proofs.Ytioooiflpabngaa.PAll
open Go.RowKit Go.Proofs.YtioooiflpabngaaW.PrintWords
set_option linter.unusedVariables false
set_option linter.unusedSimpArgs false
def RiseL (l : List S27) : Prop := l.Pairwise ltL
theorem riseL_ext : ∀ {a b : List S27}, RiseL a → RiseL b → (∀ x, x ∈ a ↔ x ∈ b) → a = b := by
  intro a
  induction a with
  | nil =>
    intro b _ _ h
    cases b with
    | nil => rfl
    | cons y b => exact absurd ((h y).2 (List.mem_cons_self ..)) (by simp)
  | cons x a ih =>
    intro b ha hb h
    cases b with
    | nil => exact absurd ((h x).1 (List.mem_cons_self ..)) (by simp)
    | cons y b =>
      obtain ⟨a1, a2⟩ := List.pairwise_cons.1 ha
      obtain ⟨b1, b2⟩ := List.pairwise_cons.1 hb
      have hxy : x = y := by
        rcases List.mem_cons.1 ((h x).1 (List.mem_cons_self ..)) with e | hx
        · exact e
        · rcases List.mem_cons.1 ((h y).2 (List.mem_cons_self ..)) with e | hy
          · exact e.symm
          · exact absurd (ltL_trans (a1 y hy) (b1 x hx)) (ltL_irrefl _)
      subst hxy
      rw [ih a2 b2 fun z => ?_]
      constructor
      · intro hz
        rcases List.mem_cons.1 ((h z).1 (List.mem_cons_of_mem _ hz)) with e | hz2
        · subst e
          exact absurd (a1 z hz) (ltL_irrefl _)
        · exact hz2
      · intro hz
        rcases List.mem_cons.1 ((h z).2 (List.mem_cons_of_mem _ hz)) with e | hz2
        · subst e
          exact absurd (b1 z hz) (ltL_irrefl _)
        · exact hz2
theorem mem_insL {x y : S27} : ∀ {l : List S27}, y ∈ insL l x ↔ y = x ∨ y ∈ l
  | [] => by simp [insL]
  | a :: l => by
    unfold insL
    split
    · rw [List.mem_cons, mem_insL (l := l), List.mem_cons]
      constructor
      · rintro (h | h | h)
        · exact .inr (.inl h)
        · exact .inl h
        · exact .inr (.inr h)
      · rintro (h | h | h)
        · exact .inr (.inl h)
        · exact .inl h
        · exact .inr (.inr h)
    · split
      · rename_i h
        have e := cmpL_eq.1 h
        subst e
        simp
      · simp
theorem insL_rise {x : S27} : ∀ {l : List S27}, RiseL l → RiseL (insL l x)
  | [], _ => List.pairwise_singleton _ _
  | a :: l, h => by
    obtain ⟨h1, h2⟩ := List.pairwise_cons.1 h
    unfold insL
    split
    · rename_i hc
      rw [cmpL_neg] at hc
      refine List.pairwise_cons.2 ⟨fun y hy => ?_, insL_rise h2⟩
      rcases mem_insL.1 hy with rfl | hy
      · exact hc
      · exact h1 y hy
    · split
      · exact h
      · rename_i hn hz
        have hlt : ltL x a := by
          rcases ltL_total x a with h | h | h
          · exact h
          · exact absurd (cmpL_eq.2 h.symm) hz
          · exact absurd ((cmpL_neg _ _).2 h) hn
        refine List.pairwise_cons.2 ⟨fun y hy => ?_, h⟩
        rcases List.mem_cons.1 hy with rfl | hy
        · exact hlt
        · exact ltL_trans hlt (h1 y hy)
theorem foldL_rise : ∀ {more l : List S27}, RiseL l → RiseL (more.foldl insL l)
  | [], _, h => h
  | x :: more, l, h => foldL_rise (more := more) (insL_rise h)
theorem mem_foldL {y : S27} : ∀ {more l : List S27}, y ∈ more.foldl insL l ↔ y ∈ l ∨ y ∈ more
  | [], l => by simp
  | x :: more, l => by
    rw [List.foldl_cons, mem_foldL (more := more), mem_insL, List.mem_cons]
    constructor
    · rintro ((h | h) | h)
      · exact .inr (.inl h)
      · exact .inl h
      · exact .inr (.inr h)
    · rintro (h | h | h)
      · exact .inl (.inr h)
      · exact .inl (.inl h)
      · exact .inr h
theorem sortL_rise (l : List S27) : RiseL (sortL l) := foldL_rise List.Pairwise.nil
theorem mem_sortL {y : S27} {l : List S27} : y ∈ sortL l ↔ y ∈ l := by
  unfold sortL
  rw [mem_foldL]
  simp
theorem insL_length (x : S27) : ∀ l : List S27, (insL l x).length ≤ l.length + 1
  | [] => by simp [insL]
  | a :: l => by
    have h := insL_length x l
    unfold insL
    split
    · simp only [List.length_cons]; omega
    · split <;> simp
theorem foldL_length : ∀ (more l : List S27), (more.foldl insL l).length ≤ l.length + more.length
  | [], l => by simp
  | x :: more, l => by
    have h1 := foldL_length more (insL l x)
    have h2 := insL_length x l
    simp only [List.foldl_cons, List.length_cons]
    omega
theorem sortL_length (l : List S27) : (sortL l).length ≤ l.length := by
  have := foldL_length l []
  simpa [sortL] using this
end Go.Proofs.Ytioooiflpabngaa.PAll
end
section
namespace Go.Proofs.Ytioooiflpabngaa.PAll
open Go.RowKit Go.Proofs.YtioooiflpabngaaW.PrintWords Go.Proofs.YtioooiflpabngaaW.PrintLast Go.Proofs.YtioooiflpabngaaW.PrintMore
attribute [local go_sem] max2_int min2_int max_two min_two max_three min_three max_four min_four   -- for this text's walks alone
set_option linter.unusedVariables false
set_option linter.unusedSimpArgs false
attribute [local go_sem high] eqA27
def folkmootref05_In.l0 : Nat → List (S27) → Int → Int → Int → Int → Int → Option (Bool)
 | 0, _, _, _, _, _, _ => none
 | k + 1, x0, x5, x408000, x408001, x408002, x408003 => if x5 < (x0.length : Int) then (if 0 ≤ x5 then (if ((((rd_T27 x0 x5).f0.f0) == x408000 && (((rd_T27 x0 x5).f0.f1) == x408001)) && (((rd_T27 x0 x5).f1) == x408002 && (((rd_T27 x0 x5).f2) == x408003))) = true then (some true) else (folkmootref05_In.l0 k x0 (wrap64 (x5 + 1)) x408000 x408001 x408002 x408003)) else (none)) else (some false)
def folkmootref05_In.f (k : Nat) (l0 : List (S27)) (a1_0 : Int) (a1_1 : Int) (a1_2 : Int) (a1_3 : Int) : Option (Bool) := folkmootref05_In.l0 k l0 0 a1_0 a1_1 a1_2 a1_3
set_option maxHeartbeats 8000000 in
set_option maxRecDepth 100000 in
theorem folkmootref05_In.calls (k : Nat) (A0 : Option Addr) (c0 : Nat) (l0 : List (S27)) (a1_0 : Int) (a1_1 : Int) (a1_2 : Int) (a1_3 : Int) (r : Bool) (w : World) (hr0 : Kd.C k27 w A0 l0.length l0) (hc0 : l0.length ≤ c0) (h : folkmootref05_In.f k l0 a1_0 a1_1 a1_2 a1_3 = some r) :
  Calls Try.prog 36 #[.slice A0 l0.length c0, .agg #[.int .u64 a1_0, .int .i64 a1_1, .int .u64 a1_2, .int .i64 a1_3]] w fun e w' => e = .returned (.bool r) ∧ Below w.heap.size w w' := by
 have hu27 := Try.underlying27
 have HR0 := Aside0.mk hr0
 have HC0 := Aside0.mk hc0
 clear hr0 hc0
 have HB := Aside0.mk (Below.refl w.heap.size w)
 have H : (folkmootref05_In.l0 k l0 0 a1_0 a1_1 a1_2 a1_3) = some r := h
 clear h
 have H' := Aside0.mk H
 clear H
 go_enter Try.func36, Try.ntmps36
 go_wp2_with (first | ((with_reducible refine gate_dst (N := 3) rfl ?_); refine box_event ?hg (N := 3) ?hd (cs := #[.int .u64 a1_0, .int .i64 a1_1, .int .u64 a1_2, .int .i64 a1_3]) (t := 27) ?hr ?_; (case hd => rfl); (case hg => rfl); (case hr => first | (go_simp; done) | (go_simp; rfl)); intro gb407 hg w3 hbox hb; have n0_ := Aside0.mk (below_step zb_ hb); have n1_ := Aside0.mk (hbox); have n2_ := Aside0.mk ((by rw [hg]; exact (below_size zb_) : w.heap.size ≤ gb407)); have n3_ := Aside0.mk ((by rw [hg]; exact (below_size zb_) : w.heap.size ≤ gb407)); clear HB; have HB := n0_; have BK407 := n1_; have GW407 := n2_; have GE407 := n3_; clear n0_ n1_ n2_ n3_; clear hb hbox hg))
 repeat (go_quiet (first | ((with_reducible refine gate_dst (N := 3) rfl ?_); refine box_event ?hg (N := 3) ?hd (cs := #[.int .u64 a1_0, .int .i64 a1_1, .int .u64 a1_2, .int .i64 a1_3]) (t := 27) ?hr ?_; (case hd => rfl); (case hg => rfl); (case hr => first | (go_simp; done) | (go_simp; rfl)); intro gb407 hg w3 hbox hb; have n0_ := Aside0.mk (below_step zb_ hb); have n1_ := Aside0.mk (hbox); have n2_ := Aside0.mk ((by rw [hg]; exact (below_size zb_) : w.heap.size ≤ gb407)); have n3_ := Aside0.mk ((by rw [hg]; exact (below_size zb_) : w.heap.size ≤ gb407)); clear HB; have HB := n0_; have BK407 := n1_; have GW407 := n2_; have GE407 := n3_; clear n0_ n1_ n2_ n3_; clear hb hbox hg)); try go_wp2_with (first | ((with_reducible refine gate_dst (N := 3) rfl ?_); refine box_event ?hg (N := 3) ?hd (cs := #[.int .u64 a1_0, .int .i64 a1_1, .int .u64 a1_2, .int .i64 a1_3]) (t := 27) ?hr ?_; (case hd => rfl); (case hg => rfl); (case hr => first | (go_simp; done) | (go_simp; rfl)); intro gb407 hg w3 hbox hb; have n0_ := Aside0.mk (below_step zb_ hb); have n1_ := Aside0.mk (hbox); have n2_ := Aside0.mk ((by rw [hg]; exact (below_size zb_) : w.heap.size ≤ gb407)); have n3_ := Aside0.mk ((by rw [hg]; exact (below_size zb_) : w.heap.size ≤ gb407)); clear HB; have HB := n0_; have BK407 := n1_; have GW407 := n2_; have GE407 := n3_; clear n0_ n1_ n2_ n3_; clear hb hbox hg)))
 go_loopg [5] k (fun kq v5 w' => ∃ (x5_1 : Int), v5 = .int .i64 x5_1 ∧ Aside0 (folkmootref05_In.l0 kq l0 x5_1 a1_0 a1_1 a1_2 a1_3 = some r) ∧ Aside0 (kq ≤ k) ∧ Aside0 (w'.heap[gb407]? = some (.cells #[.int .u64 a1_0, .int .i64 a1_1, .int .u64 a1_2, .int .i64 a1_3] 27 (0, 0))) ∧ Aside0 (Below w.heap.size w w'))
 case atStart => exact ⟨(0), (by first | rfl | (simp; done) | (simp [*]; done)), H', ⟨Nat.le_refl _⟩, ⟨by (with_reducible repeat (first | refine blk_drewN ?_ _ | refine blk_drew ?_ | refine blk_alloc ?_ _)); exact BK407.out⟩, ⟨by repeat (first | (with_reducible first | exact HB.out | apply below_alloc | apply pw_below_drewN | apply below_drew1 | refine below_set ?_ GE407.out) | exact HB.out)⟩⟩
 case round =>
  clear H'
  try clear p2
  try clear c3
  obtain ⟨x5_1, rfl, HA, HK1, BK407, HB⟩ := hrel
  cases gk with
  | zero => exact absurd HA.out (by simp [folkmootref05_In.l0])
  | succ k1 =>
   have H := HA.out
   clear HA
   simp only [folkmootref05_In.l0] at H
   by_cases c4 : x5_1 < (l0.length : Int)
   ·
    rw [if_pos c4] at H
    have c4b0 : decide (x5_1 < (l0.length : Int)) = true := decide_eq_true c4
    clear c4
    by_cases c5 : 0 ≤ x5_1
    ·
     rw [if_pos c5] at H
     have c5b0 : decide (0 ≤ x5_1) = true := decide_eq_true c5
     clear c5
     by_cases c6 : ((((rd_T27 l0 x5_1).f0.f0) == a1_0 && (((rd_T27 l0 x5_1).f0.f1) == a1_1)) && (((rd_T27 l0 x5_1).f1) == a1_2 && (((rd_T27 l0 x5_1).f2) == a1_3))) = true
     ·
      rw [if_pos c6] at H
      have c6b0 : ((((rd_T27 l0 x5_1).f0.f0) == a1_0 && (((rd_T27 l0 x5_1).f0.f1) == a1_1)) && (((rd_T27 l0 x5_1).f1) == a1_2 && (((rd_T27 l0 x5_1).f2) == a1_3))) = true := c6
      clear c6
      obtain rfl := Option.some.inj H
      have p408 : 0 ≤ (x5_1 : Int) := of_decide_eq_true zs_
      have q408 : x5_1 < (l0.length : Int) := of_decide_eq_true zs_
      obtain ⟨ad408, e408, hx408_0, hx408_1, hx408_2, hx408_3⟩ := at_T27 HR0.out x5_1 p408 q408
      cases e408
      replace hx408_0 := (HB.out.cell (World.block_lt_of_cell? w _ hx408_0)).trans hx408_0
      replace hx408_1 := (HB.out.cell (World.block_lt_of_cell? w _ hx408_1)).trans hx408_1
      replace hx408_2 := (HB.out.cell (World.block_lt_of_cell? w _ hx408_2)).trans hx408_2
      replace hx408_3 := (HB.out.cell (World.block_lt_of_cell? w _ hx408_3)).trans hx408_3
      replace p408 := eq_true p408
      replace q408 := eq_true q408
      have hcz7_0 : wr.cell? ⟨gb407, 0, none⟩ = some (.int .u64 a1_0) := (blk_cell BK407.out 0).trans rfl
      have hcz7_1 : wr.cell? ⟨gb407, 1, none⟩ = some (.int .i64 a1_1) := (blk_cell BK407.out 1).trans rfl
      have hcz7_2 : wr.cell? ⟨gb407, 2, none⟩ = some (.int .u64 a1_2) := (blk_cell BK407.out 2).trans rfl
      have hcz7_3 : wr.cell? ⟨gb407, 3, none⟩ = some (.int .i64 a1_3) := (blk_cell BK407.out 3).trans rfl
      have hfz7_0 := blk_frozen BK407.out 0
      have hfz7_1 := blk_frozen BK407.out 1
      have hfz7_2 := blk_frozen BK407.out 2
      have hfz7_3 := blk_frozen BK407.out 3
      go_wp2
      repeat (go_quiet (fail); try go_wp2)
      go_ret
      exact ⟨by first | rfl | (simp [errW_none, errW_some] <;> rfl) | (simp [*, errW_none, errW_some] <;> rfl), by repeat (first | (with_reducible first | exact HB.out | apply below_alloc | apply pw_below_drewN | apply below_drew1 | refine below_set ?_ GE407.out) | exact HB.out)⟩
     ·
      rw [if_neg c6] at H
      have c6b0 : ((((rd_T27 l0 x5_1).f0.f0) == a1_0 && (((rd_T27 l0 x5_1).f0.f1) == a1_1)) && (((rd_T27 l0 x5_1).f1) == a1_2 && (((rd_T27 l0 x5_1).f2) == a1_3))) = false := by simpa using c6
      clear c6
      have H' := Aside0.mk H
      clear H
      have p408 : 0 ≤ (x5_1 : Int) := of_decide_eq_true zs_
      have q408 : x5_1 < (l0.length : Int) := of_decide_eq_true zs_
      obtain ⟨ad408, e408, hx408_0, hx408_1, hx408_2, hx408_3⟩ := at_T27 HR0.out x5_1 p408 q408
      cases e408
      replace hx408_0 := (HB.out.cell (World.block_lt_of_cell? w _ hx408_0)).trans hx408_0
      replace hx408_1 := (HB.out.cell (World.block_lt_of_cell? w _ hx408_1)).trans hx408_1
      replace hx408_2 := (HB.out.cell (World.block_lt_of_cell? w _ hx408_2)).trans hx408_2
      replace hx408_3 := (HB.out.cell (World.block_lt_of_cell? w _ hx408_3)).trans hx408_3
      replace p408 := eq_true p408
      replace q408 := eq_true q408
      have hcz8_0 : wr.cell? ⟨gb407, 0, none⟩ = some (.int .u64 a1_0) := (blk_cell BK407.out 0).trans rfl
      have hcz8_1 : wr.cell? ⟨gb407, 1, none⟩ = some (.int .i64 a1_1) := (blk_cell BK407.out 1).trans rfl
      have hcz8_2 : wr.cell? ⟨gb407, 2, none⟩ = some (.int .u64 a1_2) := (blk_cell BK407.out 2).trans rfl
      have hcz8_3 : wr.cell? ⟨gb407, 3, none⟩ = some (.int .i64 a1_3) := (blk_cell BK407.out 3).trans rfl
      have hfz8_0 := blk_frozen BK407.out 0
      have hfz8_1 := blk_frozen BK407.out 1
      have hfz8_2 := blk_frozen BK407.out 2
      have hfz8_3 := blk_frozen BK407.out 3
      go_wp2
      repeat (go_quiet (fail); try go_wp2)
      go_roundg k1
      case measure => have := HK1.out; omega
      case rel => exact ⟨(wrap64 (x5_1 + 1)), (by first | rfl | (simp; done) | (simp [*]; done)), H', ⟨by have := HK1.out; omega⟩, ⟨by (with_reducible repeat (first | refine blk_drewN ?_ _ | refine blk_drew ?_ | refine blk_alloc ?_ _)); exact BK407.out⟩, ⟨by repeat (first | (with_reducible first | exact HB.out | apply below_alloc | apply pw_below_drewN | apply below_drew1 | refine below_set ?_ GE407.out) | exact HB.out)⟩⟩
    ·
     rw [if_neg c5] at H
     exact absurd H (by simp)
   ·
    rw [if_neg c4] at H
    have c4b0 : decide (x5_1 < (l0.length : Int)) = false := decide_eq_false c4
    clear c4
    obtain rfl := Option.some.inj H
    go_wp2
    repeat (go_quiet (fail); try go_wp2)
    go_ret
    exact ⟨by first | rfl | (simp [errW_none, errW_some] <;> rfl) | (simp [*, errW_none, errW_some] <;> rfl), by repeat (first | (with_reducible first | exact HB.out | apply below_alloc | apply pw_below_drewN | apply below_drew1 | refine below_set ?_ GE407.out) | exact HB.out)⟩
end Go.Proofs.Ytioooiflpabngaa.PAll
end
section
namespace Go.Proofs.Ytioooiflpabngaa.PAll
open Go.RowKit Go.Proofs.YtioooiflpabngaaW.PrintWords Go.Proofs.YtioooiflpabngaaW.PrintLast Go.Proofs.YtioooiflpabngaaW.PrintMore
attribute [local go_sem] max2_int min2_int max_two min_two max_three min_three max_four min_four   -- for this text's walks alone
set_option linter.unusedVariables false
set_option linter.unusedSimpArgs false
mutual
def folkmootref05_Sort.l0 : Nat → List (S27) → List (S27) → Int → Option ((List (S27)))
 | 0, _, _, _ => none
 | k + 1, x0, x3, x4 => if x4 < (x0.length : Int) then (if 0 ≤ x4 then ((folkmootref05_In.f k x3 ((rd_T27 x0 x4).f0.f0) ((rd_T27 x0 x4).f0.f1) ((rd_T27 x0 x4).f1) ((rd_T27 x0 x4).f2)).bind fun t410 => (if t410 = true then (folkmootref05_Sort.l0 k x0 x3 (wrap64 (x4 + 1))) else (folkmootref05_Sort.l1 k x0 x3 x4 ([] : List (S27)) false 0))) else (none)) else (some x3)
def folkmootref05_Sort.l1 : Nat → List (S27) → List (S27) → Int → List (S27) → Bool → Int → Option ((List (S27)))
 | 0, _, _, _, _, _, _ => none
 | k + 1, x0, x3, x4, x5, x6, x7 => if x7 < (x3.length : Int) then (if x6 = true then (if 0 ≤ x7 then (if x5.length < 4398046511104 then (folkmootref05_Sort.l1 k x0 x3 x4 (x5 ++ [(⟨(⟨(rd_T27 x3 x7).f0.f0, (rd_T27 x3 x7).f0.f1⟩ : S25), (rd_T27 x3 x7).f1, (rd_T27 x3 x7).f2⟩ : S27)]) x6 (wrap64 (x7 + 1))) else (none)) else (none)) else (if 0 ≤ x4 then (if x4 < (x0.length : Int) then (if 0 ≤ x7 then ((folkmootref05_Less.f k ((rd_T27 x0 x4).f0.f0) ((rd_T27 x0 x4).f0.f1) ((rd_T27 x0 x4).f1) ((rd_T27 x0 x4).f2) ((rd_T27 x3 x7).f0.f0) ((rd_T27 x3 x7).f0.f1) ((rd_T27 x3 x7).f1) ((rd_T27 x3 x7).f2)).bind fun t417 => (if t417 = true then (if x5.length < 4398046511104 then ((some (x5 ++ [(⟨(⟨(rd_T27 x0 x4).f0.f0, (rd_T27 x0 x4).f0.f1⟩ : S25), (rd_T27 x0 x4).f1, (rd_T27 x0 x4).f2⟩ : S27)] : List (S27))).bind fun y419 => (if y419.length < 4398046511104 then (folkmootref05_Sort.l1 k x0 x3 x4 (y419 ++ [(⟨(⟨(rd_T27 x3 x7).f0.f0, (rd_T27 x3 x7).f0.f1⟩ : S25), (rd_T27 x3 x7).f1, (rd_T27 x3 x7).f2⟩ : S27)]) true (wrap64 (x7 + 1))) else (none))) else (none)) else (if x5.length < 4398046511104 then (folkmootref05_Sort.l1 k x0 x3 x4 (x5 ++ [(⟨(⟨(rd_T27 x3 x7).f0.f0, (rd_T27 x3 x7).f0.f1⟩ : S25), (rd_T27 x3 x7).f1, (rd_T27 x3 x7).f2⟩ : S27)]) x6 (wrap64 (x7 + 1))) else (none)))) else (none)) else (none)) else (none))) else (if x6 = true then (folkmootref05_Sort.l0 k x0 x5 (wrap64 (x4 + 1))) else (if 0 ≤ x4 then (if x4 < (x0.length : Int) then (if x5.length < 4398046511104 then (folkmootref05_Sort.l0 k x0 (x5 ++ [(⟨(⟨(rd_T27 x0 x4).f0.f0, (rd_T27 x0 x4).f0.f1⟩ : S25), (rd_T27 x0 x4).f1, (rd_T27 x0 x4).f2⟩ : S27)]) (wrap64 (x4 + 1))) else (none)) else (none)) else (none)))
end
def folkmootref05_Sort.f (k : Nat) (l0 : List (S27)) : Option ((List (S27))) := folkmootref05_Sort.l0 k l0 ([] : List (S27)) 0
def folkmootref05_Sort.T11 : Bool × List (List Nat × List Nat) := (true, [([], []), ([0], [0]), ([1], [1]), ([2], [2]), ([2], [2]), ([3, 4, 2], [2, 3, 4]), ([5, 2], [2, 5]), ([2], [2]), ([2], [2]), ([7, 8, 2], [2, 7, 8]), ([9, 2], [2, 9]), ([6, 10, 2, 2], [2, 6, 10]), ([2, 11], [2, 11])])
def folkmootref05_Sort.B11 : List Nat := [0, 1, 3, 7, 7, 31, 63, 7, 7, 391, 903, 2047, 4095]
theorem folkmootref05_Sort.tab11 : rtab .any (opsOf Try.f37 11) = folkmootref05_Sort.T11 := by kernel_rfl
theorem folkmootref05_Sort.bits11 : waitsOk folkmootref05_Sort.T11.2 folkmootref05_Sort.B11 = true := by kernel_rfl
set_option maxHeartbeats 8000000 in
set_option maxRecDepth 100000 in
theorem folkmootref05_Sort.calls (k : Nat) (A0 : Option Addr) (c0 : Nat) (l0 : List (S27)) (r : List (S27)) (w : World) (hr0 : Kd.C k27 w A0 l0.length l0) (hc0 : l0.length ≤ c0) (h : folkmootref05_Sort.f k l0 = some r) :
  Calls Try.prog 37 #[.slice A0 l0.length c0] w fun e w' => ∃ v0_ : Value, e = .returned (v0_) ∧ Kd.R k27 27 w' w.heap.size (fun _ => True) v0_ r ∧ Below w.heap.size w w' := by
 have hu27 := Try.underlying27
 have HR0 := Aside0.mk hr0
 have HC0 := Aside0.mk hc0
 clear hr0 hc0
 have HB := Aside0.mk (Below.refl w.heap.size w)
 have H : (folkmootref05_Sort.l0 k l0 ([] : List (S27)) 0) = some r := h
 clear h
 have H' := Aside0.mk H
 clear H
 go_enter Try.func37, Try.ntmps37
 go_wp2
 go_loopg [3, 4] k (fun kq v3 v4 w' => ∃ (x3_1 : List (S27)) (x4_1 : Int), v4 = .int .i64 x4_1 ∧ Aside0 (folkmootref05_Sort.l0 kq l0 x3_1 x4_1 = some r) ∧ Aside0 (kq ≤ k) ∧ Aside0 (Kd.R k27 27 w' w.heap.size (fun _ => True) v3 x3_1) ∧ Aside0 (Below w.heap.size w w'))
 case atStart => exact ⟨(([] : List (S27))), (0), (by first | rfl | (simp; done) | (simp [*]; done)), H', ⟨Nat.le_refl _⟩, ⟨by first | exact Kd.R_nil _ _ _ _ _ | exact Kd.N_nil _ _ _ _ _ | exact Kd.V_nil _ _ _ _ _ | exact Kd.Q_nil _ _ _ _ _ | exact Kd.S_nil _ _ _ _ _⟩, ⟨by repeat (first | (with_reducible first | exact HB.out | apply below_alloc | apply pw_below_drewN | apply below_drew1) | exact HB.out)⟩⟩
 case round =>
  clear H'
  obtain ⟨x3_1, x4_1, rfl, HA, HK1, HO_3, HB⟩ := hrel
  cases gk with
  | zero => exact absurd HA.out (by simp [folkmootref05_Sort.l0])
  | succ k1 =>
   have H := HA.out
   clear HA
   simp only [folkmootref05_Sort.l0] at H
   by_cases c2 : x4_1 < (l0.length : Int)
   ·
    rw [if_pos c2] at H
    have c2b0 : decide (x4_1 < (l0.length : Int)) = true := decide_eq_true c2
    clear c2
    by_cases c3 : 0 ≤ x4_1
    ·
     rw [if_pos c3] at H
     have c3b0 : decide (0 ≤ x4_1) = true := decide_eq_true c3
     clear c3
     replace H := Option.bind_eq_some_iff.mp H
     obtain ⟨t410, A40, H⟩ := H
     replace H : (if t410 = true then (folkmootref05_Sort.l0 k1 l0 x3_1 (wrap64 (x4_1 + 1))) else (folkmootref05_Sort.l1 k1 l0 x3_1 x4_1 ([] : List (S27)) false 0)) = some r := H
     have A4 := Aside0.mk A40
     clear A40
     by_cases c5 : t410 = true
     ·
      subst c5
      have H1 : (folkmootref05_Sort.l0 k1 l0 x3_1 (wrap64 (x4_1 + 1))) = some r := by rw [if_pos rfl] at H; exact H
      clear H
      have H := H1
      clear H1
      have H' := Aside0.mk H
      clear H
      have p409 : 0 ≤ (x4_1 : Int) := of_decide_eq_true zs_
      have q409 : x4_1 < (l0.length : Int) := of_decide_eq_true zs_
      obtain ⟨ad409, e409, hx409_0, hx409_1, hx409_2, hx409_3⟩ := at_T27 HR0.out x4_1 p409 q409
      cases e409
      replace hx409_0 := (HB.out.cell (World.block_lt_of_cell? w _ hx409_0)).trans hx409_0
      replace hx409_1 := (HB.out.cell (World.block_lt_of_cell? w _ hx409_1)).trans hx409_1
      replace hx409_2 := (HB.out.cell (World.block_lt_of_cell? w _ hx409_2)).trans hx409_2
      replace hx409_3 := (HB.out.cell (World.block_lt_of_cell? w _ hx409_3)).trans hx409_3
      replace p409 := eq_true p409
      replace q409 := eq_true q409
      obtain ⟨Ao6, co6, eo6⟩ := Kd.R_slice HO_3.out
      subst eo6
      go_wp2_with (first | ((with_reducible refine gate_callee (f := 36) rfl ?_); refine goesL_ (some 19) rfl rfl Try.func36 (by kernel_rfl) rfl #[.slice Ao6 x3_1.length co6, .agg #[.int .u64 ((rd_T27 l0 x4_1).f0.f0), .int .i64 ((rd_T27 l0 x4_1).f0.f1), .int .u64 ((rd_T27 l0 x4_1).f1), .int .i64 ((rd_T27 l0 x4_1).f2)]] rfl za_ ?_; (with_reducible refine (folkmootref05_In.calls k1 _ _ x3_1 ((rd_T27 l0 x4_1).f0.f0) ((rd_T27 l0 x4_1).f0.f1) ((rd_T27 l0 x4_1).f1) ((rd_T27 l0 x4_1).f2) true _ ?side1 ?side2 A4.out).mono ?_); (case side1 => exact zd_ (Kd.R_reads' HO_3.out).2.2); (case side2 => exact (Kd.R_reads' HO_3.out).2.1); rintro e w7 ⟨rfl, hb⟩; refine ⟨_, rfl, ?_⟩; have n0_ := Aside0.mk (Kd.R_below (zr_ HO_3) hb); have n1_ := Aside0.mk (below_step zb_ hb); clear HO_3; clear HB; have HO_3 := n0_; have HB := n1_; clear n0_ n1_; (try clear hb); (try clear hb2); (try clear hk); (try clear hi)))
      go_roundg k1
      case measure => have := HK1.out; omega
      case rel => exact ⟨(x3_1), (wrap64 (x4_1 + 1)), (by first | rfl | (simp; done) | (simp [*]; done)), H', ⟨by have := HK1.out; omega⟩, ⟨by (with_reducible repeat (first | apply Kd.R_alloc | apply Kd.R_drewN | apply Kd.R_drew)); exact HO_3.out⟩, ⟨by repeat (first | (with_reducible first | exact HB.out | apply below_alloc | apply pw_below_drewN | apply below_drew1) | exact HB.out)⟩⟩
     ·
      replace c5 := Bool.eq_false_iff.mpr c5
      subst c5
      have H1 : (folkmootref05_Sort.l1 k1 l0 x3_1 x4_1 ([] : List (S27)) false 0) = some r := by rw [if_neg (show ¬ (false = true) by decide)] at H; exact H
      clear H
      have H := H1
      clear H1
      have H' := Aside0.mk H
      clear H
      have p409 : 0 ≤ (x4_1 : Int) := of_decide_eq_true zs_
      have q409 : x4_1 < (l0.length : Int) := of_decide_eq_true zs_
      obtain ⟨ad409, e409, hx409_0, hx409_1, hx409_2, hx409_3⟩ := at_T27 HR0.out x4_1 p409 q409
      cases e409
      replace hx409_0 := (HB.out.cell (World.block_lt_of_cell? w _ hx409_0)).trans hx409_0
      replace hx409_1 := (HB.out.cell (World.block_lt_of_cell? w _ hx409_1)).trans hx409_1
      replace hx409_2 := (HB.out.cell (World.block_lt_of_cell? w _ hx409_2)).trans hx409_2
      replace hx409_3 := (HB.out.cell (World.block_lt_of_cell? w _ hx409_3)).trans hx409_3
      replace p409 := eq_true p409
      replace q409 := eq_true q409
      obtain ⟨Ao8, co8, eo8⟩ := Kd.R_slice HO_3.out
      subst eo8
      go_wp2_with (first | ((with_reducible refine gate_callee (f := 36) rfl ?_); refine goesL_ (some 19) rfl rfl Try.func36 (by kernel_rfl) rfl #[.slice Ao8 x3_1.length co8, .agg #[.int .u64 ((rd_T27 l0 x4_1).f0.f0), .int .i64 ((rd_T27 l0 x4_1).f0.f1), .int .u64 ((rd_T27 l0 x4_1).f1), .int .i64 ((rd_T27 l0 x4_1).f2)]] rfl za_ ?_; (with_reducible refine (folkmootref05_In.calls k1 _ _ x3_1 ((rd_T27 l0 x4_1).f0.f0) ((rd_T27 l0 x4_1).f0.f1) ((rd_T27 l0 x4_1).f1) ((rd_T27 l0 x4_1).f2) false _ ?side1 ?side2 A4.out).mono ?_); (case side1 => exact zd_ (Kd.R_reads' HO_3.out).2.2); (case side2 => exact (Kd.R_reads' HO_3.out).2.1); rintro e w9 ⟨rfl, hb⟩; refine ⟨_, rfl, ?_⟩; have n0_ := Aside0.mk (Kd.R_below (zr_ HO_3) hb); have n1_ := Aside0.mk (below_step zb_ hb); clear HO_3; clear HB; have HO_3 := n0_; have HB := n1_; clear n0_ n1_; (try clear hb); (try clear hb2); (try clear hk); (try clear hi)))
      go_loopg [5, 6, 7] k1 (fun kq v5 v6 v7 w' => ∃ (x5_2 : List (S27)) (x6_2 : Bool) (x7_2 : Int), v6 = .bool x6_2 ∧ v7 = .int .i64 x7_2 ∧ Aside0 (folkmootref05_Sort.l1 kq l0 x3_1 x4_1 x5_2 x6_2 x7_2 = some r) ∧ Aside0 (kq ≤ k1) ∧ Aside0 (Kd.R k27 27 w' w.heap.size (fun k_ => some k_ ≠ (v5 : Value).ownBlock) (.slice Ao8 x3_1.length co8) x3_1) ∧ Aside0 (Kd.R k27 27 w' w.heap.size (fun k_ => some k_ ≠ ((.slice Ao8 x3_1.length co8) : Value).ownBlock) v5 x5_2) ∧ Aside0 (Below w.heap.size w w'))
      case atStart => exact ⟨(([] : List (S27))), (false), (0), (by first | rfl | (simp; done) | (simp [*]; done)), (by first | rfl | (simp; done) | (simp [*]; done)), H', ⟨Nat.le_refl _⟩, ⟨by (with_reducible repeat (first | apply Kd.R_alloc | apply Kd.R_drewN | apply Kd.R_drew)); exact Kd.R_mono HO_3.out (fun _ hk => (by simp [Value.ownBlock]))⟩, ⟨by first | exact Kd.R_nil _ _ _ _ _ | exact Kd.N_nil _ _ _ _ _ | exact Kd.V_nil _ _ _ _ _ | exact Kd.Q_nil _ _ _ _ _ | exact Kd.S_nil _ _ _ _ _⟩, ⟨by repeat (first | (with_reducible first | exact HB.out | apply below_alloc | apply pw_below_drewN | apply below_drew1) | exact HB.out)⟩⟩
      case round =>
       clear H'
       try clear c2
       try clear c2b0
       try clear p2
       try clear c3
       try clear c3b0
       try clear p4
       try clear q4
       try clear hx4
       try clear c5
       try clear p6
       try clear hx409_0
       try clear hx409_1
       try clear hx409_2
       try clear hx409_3
       try clear p409
       try clear q409
       obtain ⟨x5_2, x6_2, x7_2, rfl, rfl, HA, HK2, HO_3, HO_5, HB⟩ := hrel
       cases gk with
       | zero => exact absurd HA.out (by simp [folkmootref05_Sort.l1])
       | succ k2 =>
        have H := HA.out
        clear HA
        simp only [folkmootref05_Sort.l1] at H
        by_cases c10 : x7_2 < (x3_1.length : Int)
        ·
         rw [if_pos c10] at H
         have c10b0 : decide (x7_2 < (x3_1.length : Int)) = true := decide_eq_true c10
         clear c10
         by_cases c11 : x6_2 = true
         ·
          subst c11
          have H1 : (if 0 ≤ x7_2 then (if x5_2.length < 4398046511104 then (folkmootref05_Sort.l1 k2 l0 x3_1 x4_1 (x5_2 ++ [(⟨(⟨(rd_T27 x3_1 x7_2).f0.f0, (rd_T27 x3_1 x7_2).f0.f1⟩ : S25), (rd_T27 x3_1 x7_2).f1, (rd_T27 x3_1 x7_2).f2⟩ : S27)]) true (wrap64 (x7_2 + 1))) else (none)) else (none)) = some r := by rw [if_pos rfl] at H; exact H
          clear H
          have H := H1
          clear H1
          by_cases c12 : 0 ≤ x7_2
          ·
           rw [if_pos c12] at H
           have c12b0 : decide (0 ≤ x7_2) = true := decide_eq_true c12
           clear c12
           by_cases c13 : x5_2.length < 4398046511104
           ·
            rw [if_pos c13] at H
            have LMc13 := Aside0.mk c13
            clear c13
            obtain ⟨y412, hy412⟩ : ∃ y_ : List (S27), y_ = (x5_2 ++ [(⟨(⟨(rd_T27 x3_1 x7_2).f0.f0, (rd_T27 x3_1 x7_2).f0.f1⟩ : S25), (rd_T27 x3_1 x7_2).f1, (rd_T27 x3_1 x7_2).f2⟩ : S27)]) := ⟨_, rfl⟩
            replace H : (folkmootref05_Sort.l1 k2 l0 x3_1 x4_1 y412 true (wrap64 (x7_2 + 1))) = some r := by first | (rw [hy412]; with_reducible exact H) | (have H2_ := (Option.bind_some _ _).symm.trans H; rw [hy412]; with_reducible exact H2_) | (have H2_ := (Option.bind_some _ _).symm.trans H; with_reducible exact H2_) | with_reducible exact H | (rw [hy412]; exact H) | exact H
            have Ny412 := Aside0.mk hy412
            clear hy412
            have H' := Aside0.mk H
            clear H
            try go_wp2
            have n0_ := Aside0.mk (Kd.R_drew HO_3.out)
            have n1_ := Aside0.mk (Kd.R_drew HO_5.out)
            have n2_ := Aside0.mk (below_drew1 HB.out)
            clear HO_3
            clear HO_5
            clear HB
            have HO_3 := n0_
            have HO_5 := n1_
            have HB := n2_
            clear n0_ n1_ n2_
            refine start_ (n := 13) (S := fun w' => True) (ds := []) #[F_,F_,F_,F_,F_,F_,F_,F_,F_,F_,F_,F_,F_] (by kernel_rfl) rfl rfl trivial (fun hHeld => ?_); refine with_tabW folkmootref05_Sort.tab11 folkmootref05_Sort.bits11 (fun HT_ HW_ => ?_)
            generalize wr.drew = w14 at HO_3 HO_5 HB hHeld ⊢
            refine pure_ (i := 0) (N := some 26) (v := ?_) (a' := ?_) #[T_,F_,F_,F_,F_,F_,F_,F_,F_,F_,F_,F_,F_] rfl rfl (any_of HT_.out (by kernel_rfl)) (fun _ _ _ h => h) (Or.inl ⟨by rfl, ?_⟩) ?_ ?_
            rotate_left
            ·
             intro w'; go_simp; with_reducible rfl
            rotate_left
            ·
             exact zp_
            refine pure_ (i := 1) (N := some 27) (v := ?_) (a' := ?_) #[T_,T_,F_,F_,F_,F_,F_,F_,F_,F_,F_,F_,F_] rfl rfl (any_of HT_.out (by kernel_rfl)) (fun _ _ _ h => h) (Or.inl ⟨by rfl, ?_⟩) ?_ ?_
            rotate_left
            ·
             intro w'; go_simp; with_reducible rfl
            rotate_left
            ·
             exact zp_
            refine pure_ (i := 2) (N := some 28) (v := ?_) (a' := ?_) #[T_,T_,T_,F_,F_,F_,F_,F_,F_,F_,F_,F_,F_] rfl rfl (any_of HT_.out (by kernel_rfl)) (fun _ _ _ h => h) (Or.inl ⟨by rfl, ?_⟩) ?_ ?_
            rotate_left
            ·
             intro w'; go_simp; with_reducible rfl
            rotate_left
            ·
             exact zp_
            refine pure_ (i := 3) (N := some 29) (v := undef) (a' := ?_) #[T_,T_,T_,T_,F_,F_,F_,F_,F_,F_,F_,F_,F_] rfl rfl (any_of HT_.out (by kernel_rfl)) (fun _ _ _ h => h) (Or.inr ⟨by rfl, rfl⟩) ?_ ?_
            rotate_left
            ·
             exact zp_
            refine pure_ (i := 4) (N := some 30) (v := undef) (a' := ?_) #[T_,T_,T_,T_,T_,F_,F_,F_,F_,F_,F_,F_,F_] rfl rfl (any_of HT_.out (by kernel_rfl)) (fun _ _ _ h => h) (Or.inr ⟨by rfl, rfl⟩) ?_ ?_
            rotate_left
            ·
             exact zp_
            refine pure_ (i := 5) (N := some 31) (v := undef) (a' := ?_) #[T_,T_,T_,T_,T_,T_,F_,F_,F_,F_,F_,F_,F_] rfl rfl (any_of HT_.out (by kernel_rfl)) (fun _ _ _ h => h) (Or.inr ⟨by rfl, rfl⟩) ?_ ?_
            rotate_left
            ·
             exact zp_
            refine pure_ (i := 6) (N := some 32) (v := undef) (a' := ?_) #[T_,T_,T_,T_,T_,T_,T_,F_,F_,F_,F_,F_,F_] rfl rfl (any_of HT_.out (by kernel_rfl)) (fun _ _ _ h => h) (Or.inr ⟨by rfl, rfl⟩) ?_ ?_
            rotate_left
            ·
             exact zp_
            refine pure_ (i := 7) (N := some 33) (v := undef) (a' := ?_) #[T_,T_,T_,T_,T_,T_,T_,T_,F_,F_,F_,F_,F_] rfl rfl (any_of HT_.out (by kernel_rfl)) (fun _ _ _ h => h) (Or.inr ⟨by rfl, rfl⟩) ?_ ?_
            rotate_left
            ·
             exact zp_
            refine pure_ (i := 8) (N := some 34) (v := undef) (a' := ?_) #[T_,T_,T_,T_,T_,T_,T_,T_,T_,F_,F_,F_,F_] rfl rfl (any_of HT_.out (by kernel_rfl)) (fun _ _ _ h => h) (Or.inr ⟨by rfl, rfl⟩) ?_ ?_
            rotate_left
            ·
             exact zp_
            refine pure_ (i := 9) (N := some 35) (v := undef) (a' := ?_) #[T_,T_,T_,T_,T_,T_,T_,T_,T_,T_,F_,F_,F_] rfl rfl (any_of HT_.out (by kernel_rfl)) (fun _ _ _ h => h) (Or.inr ⟨by rfl, rfl⟩) ?_ ?_
            rotate_left
            ·
             exact zp_
            refine pure_ (i := 10) (N := some 36) (v := undef) (a' := ?_) #[T_,T_,T_,T_,T_,T_,T_,T_,T_,T_,T_,F_,F_] rfl rfl (any_of HT_.out (by kernel_rfl)) (fun _ _ _ h => h) (Or.inr ⟨by rfl, rfl⟩) ?_ ?_
            rotate_left
            ·
             exact zp_
            refine pure_ (i := 11) (N := some 37) (v := undef) (a' := ?_) #[T_,T_,T_,T_,T_,T_,T_,T_,T_,T_,T_,T_,F_] rfl rfl (any_of HT_.out (by kernel_rfl)) (fun _ _ _ h => h) (Or.inr ⟨by rfl, rfl⟩) ?_ ?_
            rotate_left
            ·
             exact zp_
            refine pure_ (i := 12) (N := some 38) (v := ?_) (a' := ?_) #[T_,T_,T_,T_,T_,T_,T_,T_,T_,T_,T_,T_,T_] rfl rfl (any_of HT_.out (by kernel_rfl)) (fun _ _ _ h => h) (Or.inl ⟨by rfl, ?_⟩) ?_ ?_
            rotate_left
            ·
             intro w'; go_simp; with_reducible rfl
            rotate_left
            ·
             exact zp_
            refine done_ (done_of HT_.out (by kernel_rfl)) ?_
            (try clear hHeld); (try clear HS0_); (try clear HS1_); (try clear HS2_); (try clear HS3_); (try clear HS4_); (try clear HS5_); (try clear HS6_); (try clear HS7_)
            have p411 : 0 ≤ (x7_2 : Int) := of_decide_eq_true zs_
            have q411 : x7_2 < (x3_1.length : Int) := of_decide_eq_true zs_
            obtain ⟨ad411, e411, hx411_0, hx411_1, hx411_2, hx411_3⟩ := at_T27 (Kd.R_reads' HO_3.out).2.2 x7_2 p411 q411
            cases e411
            replace p411 := eq_true p411
            replace q411 := eq_true q411
            try go_wp2_with (first | ((with_reducible refine gate_builtin (b := .append) (xs := #[.tmp 46, .tmp 51]) rfl ?_); at_builtin; refine Kd.R_append k27 (w0 := w) w.heap.size rfl (.tmp 46) (.tmp 51) 41 27 (.agg #[(.int .u64 0), (.int .i64 0), (.int .u64 0), (.int .i64 0)]) 32 rfl Try.underlying41 info27 rfl (by decide) (by omega) u5 x5_2 (⟨(⟨(rd_T27 x3_1 x7_2).f0.f0, (rd_T27 x3_1 x7_2).f0.f1⟩ : S25), (rd_T27 x3_1 x7_2).f1, (rd_T27 x3_1 x7_2).f2⟩ : S27) [.int .u64 ((rd_T27 x3_1 x7_2).f0.f0), .int .i64 ((rd_T27 x3_1 x7_2).f0.f1), .int .u64 ((rd_T27 x3_1 x7_2).f1), .int .i64 ((rd_T27 x3_1 x7_2).f2)] (fun k_ => some k_ ≠ (.slice (some ad411) x3_1.length co8 : Value).ownBlock) (fun _ => False) rfl rfl ?aP (fun _ hk => hk.elim) ?aF ?aO ?aB ?aS ?aL ?_; (case aP => exact k27_mkM _ _ _ (⟨(⟨(rd_T27 x3_1 x7_2).f0.f0, (rd_T27 x3_1 x7_2).f0.f1⟩ : S25), (rd_T27 x3_1 x7_2).f1, (rd_T27 x3_1 x7_2).f2⟩ : S27)); (case aB => exact zb_); (case aF => exact (fun k_ hk => Kd.fresh' (Kd.R_lt (zr_ HO_3)) k_ hk)); (case aO => exact (zr_ HO_5)); (case aS => exact (below_size zb_)); (case aL => have := LMc13.out; omega); intro v413 w15 ho hb hg hat; rw [← Ny412.out] at ho; have n0_ := Aside0.mk (Kd.R_after (ok := (fun _ => True)) (by (with_reducible repeat (first | apply Kd.R_alloc | apply Kd.R_drewN | apply Kd.R_drew)); exact Kd.R_mono HO_3.out (fun _ hk => ⟨trivial, hk⟩)) hg hat); have n1_ := Aside0.mk (hb); have n2_ := Aside0.mk (ho); clear HO_3; clear HB; clear HO_5; have HO_3 := n0_; have HB := n1_; have HO414 := n2_; clear n0_ n1_ n2_; clear ho hb hg hat))
            go_roundg k2
            case measure => have := HK1.out; have := HK2.out; omega
            case rel => exact ⟨(y412), (true), (wrap64 (x7_2 + 1)), (by first | rfl | (simp; done) | (simp [*]; done)), (by first | rfl | (simp; done) | (simp [*]; done)), H', ⟨by have := HK1.out; have := HK2.out; omega⟩, ⟨by (with_reducible repeat (first | apply Kd.R_alloc | apply Kd.R_drewN | apply Kd.R_drew)); exact Kd.R_mono HO_3.out (fun _ hk => hk.2)⟩, ⟨by (with_reducible repeat (first | apply Kd.R_alloc | apply Kd.R_drewN | apply Kd.R_drew)); exact HO414.out⟩, ⟨by repeat (first | (with_reducible first | exact HB.out | apply below_alloc | apply pw_below_drewN | apply below_drew1) | exact HB.out)⟩⟩
           ·
            rw [if_neg c13] at H
            exact absurd H (by simp)
          ·
           rw [if_neg c12] at H
           exact absurd H (by simp)
         ·
          replace c11 := Bool.eq_false_iff.mpr c11
          subst c11
          have H1 : (if 0 ≤ x4_1 then (if x4_1 < (l0.length : Int) then (if 0 ≤ x7_2 then ((folkmootref05_Less.f k2 ((rd_T27 l0 x4_1).f0.f0) ((rd_T27 l0 x4_1).f0.f1) ((rd_T27 l0 x4_1).f1) ((rd_T27 l0 x4_1).f2) ((rd_T27 x3_1 x7_2).f0.f0) ((rd_T27 x3_1 x7_2).f0.f1) ((rd_T27 x3_1 x7_2).f1) ((rd_T27 x3_1 x7_2).f2)).bind fun t417 => (if t417 = true then (if x5_2.length < 4398046511104 then ((some (x5_2 ++ [(⟨(⟨(rd_T27 l0 x4_1).f0.f0, (rd_T27 l0 x4_1).f0.f1⟩ : S25), (rd_T27 l0 x4_1).f1, (rd_T27 l0 x4_1).f2⟩ : S27)] : List (S27))).bind fun y419 => (if y419.length < 4398046511104 then (folkmootref05_Sort.l1 k2 l0 x3_1 x4_1 (y419 ++ [(⟨(⟨(rd_T27 x3_1 x7_2).f0.f0, (rd_T27 x3_1 x7_2).f0.f1⟩ : S25), (rd_T27 x3_1 x7_2).f1, (rd_T27 x3_1 x7_2).f2⟩ : S27)]) true (wrap64 (x7_2 + 1))) else (none))) else (none)) else (if x5_2.length < 4398046511104 then (folkmootref05_Sort.l1 k2 l0 x3_1 x4_1 (x5_2 ++ [(⟨(⟨(rd_T27 x3_1 x7_2).f0.f0, (rd_T27 x3_1 x7_2).f0.f1⟩ : S25), (rd_T27 x3_1 x7_2).f1, (rd_T27 x3_1 x7_2).f2⟩ : S27)]) false (wrap64 (x7_2 + 1))) else (none)))) else (none)) else (none)) else (none)) = some r := by rw [if_neg (show ¬ (false = true) by decide)] at H; exact H
          clear H
          have H := H1
          clear H1
          by_cases c16 : 0 ≤ x4_1
          ·
           rw [if_pos c16] at H
           have c16b0 : decide (0 ≤ x4_1) = true := decide_eq_true c16
           clear c16
           by_cases c17 : x4_1 < (l0.length : Int)
           ·
            rw [if_pos c17] at H
            have c17b0 : decide (x4_1 < (l0.length : Int)) = true := decide_eq_true c17
            clear c17
            by_cases c18 : 0 ≤ x7_2
            ·
             rw [if_pos c18] at H
             have c18b0 : decide (0 ≤ x7_2) = true := decide_eq_true c18
             clear c18
             replace H := Option.bind_eq_some_iff.mp H
             obtain ⟨t417, A190, H⟩ := H
             replace H : (if t417 = true then (if x5_2.length < 4398046511104 then ((some (x5_2 ++ [(⟨(⟨(rd_T27 l0 x4_1).f0.f0, (rd_T27 l0 x4_1).f0.f1⟩ : S25), (rd_T27 l0 x4_1).f1, (rd_T27 l0 x4_1).f2⟩ : S27)] : List (S27))).bind fun y419 => (if y419.length < 4398046511104 then (folkmootref05_Sort.l1 k2 l0 x3_1 x4_1 (y419 ++ [(⟨(⟨(rd_T27 x3_1 x7_2).f0.f0, (rd_T27 x3_1 x7_2).f0.f1⟩ : S25), (rd_T27 x3_1 x7_2).f1, (rd_T27 x3_1 x7_2).f2⟩ : S27)]) true (wrap64 (x7_2 + 1))) else (none))) else (none)) else (if x5_2.length < 4398046511104 then (folkmootref05_Sort.l1 k2 l0 x3_1 x4_1 (x5_2 ++ [(⟨(⟨(rd_T27 x3_1 x7_2).f0.f0, (rd_T27 x3_1 x7_2).f0.f1⟩ : S25), (rd_T27 x3_1 x7_2).f1, (rd_T27 x3_1 x7_2).f2⟩ : S27)]) false (wrap64 (x7_2 + 1))) else (none))) = some r := H
             have A19 := Aside0.mk A190
             clear A190
             by_cases c20 : t417 = true
             ·
              subst c20
              have H1 : (if x5_2.length < 4398046511104 then ((some (x5_2 ++ [(⟨(⟨(rd_T27 l0 x4_1).f0.f0, (rd_T27 l0 x4_1).f0.f1⟩ : S25), (rd_T27 l0 x4_1).f1, (rd_T27 l0 x4_1).f2⟩ : S27)] : List (S27))).bind fun y419 => (if y419.length < 4398046511104 then (folkmootref05_Sort.l1 k2 l0 x3_1 x4_1 (y419 ++ [(⟨(⟨(rd_T27 x3_1 x7_2).f0.f0, (rd_T27 x3_1 x7_2).f0.f1⟩ : S25), (rd_T27 x3_1 x7_2).f1, (rd_T27 x3_1 x7_2).f2⟩ : S27)]) true (wrap64 (x7_2 + 1))) else (none))) else (none)) = some r := by rw [if_pos rfl] at H; exact H
              clear H
              have H := H1
              clear H1
              by_cases c21 : x5_2.length < 4398046511104
              ·
               rw [if_pos c21] at H
               have LMc21 := Aside0.mk c21
               clear c21
               obtain ⟨y419, hy419⟩ : ∃ y_ : List (S27), y_ = (x5_2 ++ [(⟨(⟨(rd_T27 l0 x4_1).f0.f0, (rd_T27 l0 x4_1).f0.f1⟩ : S25), (rd_T27 l0 x4_1).f1, (rd_T27 l0 x4_1).f2⟩ : S27)]) := ⟨_, rfl⟩
               replace H : (if y419.length < 4398046511104 then (folkmootref05_Sort.l1 k2 l0 x3_1 x4_1 (y419 ++ [(⟨(⟨(rd_T27 x3_1 x7_2).f0.f0, (rd_T27 x3_1 x7_2).f0.f1⟩ : S25), (rd_T27 x3_1 x7_2).f1, (rd_T27 x3_1 x7_2).f2⟩ : S27)]) true (wrap64 (x7_2 + 1))) else (none)) = some r := by first | (rw [hy419]; with_reducible exact H) | (have H2_ := (Option.bind_some _ _).symm.trans H; rw [hy419]; with_reducible exact H2_) | (have H2_ := (Option.bind_some _ _).symm.trans H; with_reducible exact H2_) | with_reducible exact H | (rw [hy419]; exact H) | exact H
               have Ny419 := Aside0.mk hy419
               clear hy419
               by_cases c22 : y419.length < 4398046511104
               ·
                rw [if_pos c22] at H
                have LMc22 := Aside0.mk c22
                clear c22
                obtain ⟨y423, hy423⟩ : ∃ y_ : List (S27), y_ = (y419 ++ [(⟨(⟨(rd_T27 x3_1 x7_2).f0.f0, (rd_T27 x3_1 x7_2).f0.f1⟩ : S25), (rd_T27 x3_1 x7_2).f1, (rd_T27 x3_1 x7_2).f2⟩ : S27)]) := ⟨_, rfl⟩
                replace H : (folkmootref05_Sort.l1 k2 l0 x3_1 x4_1 y423 true (wrap64 (x7_2 + 1))) = some r := by first | (rw [hy423]; with_reducible exact H) | (have H2_ := (Option.bind_some _ _).symm.trans H; rw [hy423]; with_reducible exact H2_) | (have H2_ := (Option.bind_some _ _).symm.trans H; with_reducible exact H2_) | with_reducible exact H | (rw [hy423]; exact H) | exact H
                have Ny423 := Aside0.mk hy423
                clear hy423
                have H' := Aside0.mk H
                clear H
                try go_wp2
                have n0_ := Aside0.mk (Kd.R_drew HO_3.out)
                have n1_ := Aside0.mk (Kd.R_drew HO_5.out)
                have n2_ := Aside0.mk (below_drew1 HB.out)
                clear HO_3
                clear HO_5
                clear HB
                have HO_3 := n0_
                have HO_5 := n1_
                have HB := n2_
                clear n0_ n1_ n2_
                have p415 : 0 ≤ (x4_1 : Int) := of_decide_eq_true zs_
                have q415 : x4_1 < (l0.length : Int) := of_decide_eq_true zs_
                obtain ⟨ad415, e415, hx415_0, hx415_1, hx415_2, hx415_3⟩ := at_T27 HR0.out x4_1 p415 q415
                have hw415_3 := hx415_3
                have hw415_2 := hx415_2
                have hw415_1 := hx415_1
                have hw415_0 := hx415_0
                obtain rfl : ad409 = ad415 := (by injection e415)
                replace hx415_0 := (HB.out.cell (World.block_lt_of_cell? w _ hx415_0)).trans hx415_0
                replace hx415_1 := (HB.out.cell (World.block_lt_of_cell? w _ hx415_1)).trans hx415_1
                replace hx415_2 := (HB.out.cell (World.block_lt_of_cell? w _ hx415_2)).trans hx415_2
                replace hx415_3 := (HB.out.cell (World.block_lt_of_cell? w _ hx415_3)).trans hx415_3
                replace p415 := eq_true p415
                replace q415 := eq_true q415
                have p416 : 0 ≤ (x7_2 : Int) := of_decide_eq_true zs_
                have q416 : x7_2 < (x3_1.length : Int) := of_decide_eq_true zs_
                obtain ⟨ad416, e416, hx416_0, hx416_1, hx416_2, hx416_3⟩ := at_T27 (Kd.R_reads' HO_3.out).2.2 x7_2 p416 q416
                cases e416
                replace p416 := eq_true p416
                replace q416 := eq_true q416
                refine start_ (n := 13) (S := fun w' => w'.cell? (ad409.add ((x4_1).toNat * 4)) = some (.int .u64 ((rd_T27 l0 x4_1).f0.f0)) ∧ w'.cell? ⟨(ad409.add ((x4_1).toNat * 4)).block, (ad409.add ((x4_1).toNat * 4)).off + 1, none⟩ = some (.int .i64 ((rd_T27 l0 x4_1).f0.f1)) ∧ w'.cell? ⟨(ad409.add ((x4_1).toNat * 4)).block, (ad409.add ((x4_1).toNat * 4)).off + 2, none⟩ = some (.int .u64 ((rd_T27 l0 x4_1).f1)) ∧ w'.cell? ⟨(ad409.add ((x4_1).toNat * 4)).block, (ad409.add ((x4_1).toNat * 4)).off + 3, none⟩ = some (.int .i64 ((rd_T27 l0 x4_1).f2)) ∧ w'.cell? (ad416.add ((x7_2).toNat * 4)) = some (.int .u64 ((rd_T27 x3_1 x7_2).f0.f0)) ∧ w'.cell? ⟨(ad416.add ((x7_2).toNat * 4)).block, (ad416.add ((x7_2).toNat * 4)).off + 1, none⟩ = some (.int .i64 ((rd_T27 x3_1 x7_2).f0.f1)) ∧ w'.cell? ⟨(ad416.add ((x7_2).toNat * 4)).block, (ad416.add ((x7_2).toNat * 4)).off + 2, none⟩ = some (.int .u64 ((rd_T27 x3_1 x7_2).f1)) ∧ w'.cell? ⟨(ad416.add ((x7_2).toNat * 4)).block, (ad416.add ((x7_2).toNat * 4)).off + 3, none⟩ = some (.int .i64 ((rd_T27 x3_1 x7_2).f2))) (ds := []) #[F_,F_,F_,F_,F_,F_,F_,F_,F_,F_,F_,F_,F_] (by kernel_rfl) rfl rfl ⟨((HB.out.cell (World.block_lt_of_cell? w _ hw415_0)).trans hw415_0), ((HB.out.cell (World.block_lt_of_cell? w _ hw415_1)).trans hw415_1), ((HB.out.cell (World.block_lt_of_cell? w _ hw415_2)).trans hw415_2), ((HB.out.cell (World.block_lt_of_cell? w _ hw415_3)).trans hw415_3), hx416_0, hx416_1, hx416_2, hx416_3⟩ (fun hHeld => ?_); refine with_tabW folkmootref05_Sort.tab11 folkmootref05_Sort.bits11 (fun HT_ HW_ => ?_)
                generalize wr.drew = w23 at HO_3 HO_5 HB hx415_0 hx415_1 hx415_2 hx415_3 hx416_0 hx416_1 hx416_2 hx416_3 hHeld ⊢
                refine pure_ (i := 0) (N := some 26) (v := ?_) (a' := ?_) #[T_,F_,F_,F_,F_,F_,F_,F_,F_,F_,F_,F_,F_] rfl rfl (any_of HT_.out (by kernel_rfl)) (fun _ _ _ h => h) (Or.inl ⟨by rfl, ?_⟩) ?_ ?_
                rotate_left
                ·
                 intro w'; go_simp; with_reducible rfl
                rotate_left
                ·
                 exact zp_
                refine pure_ (i := 1) (N := some 27) (v := ?_) (a' := ?_) #[T_,T_,F_,F_,F_,F_,F_,F_,F_,F_,F_,F_,F_] rfl rfl (any_of HT_.out (by kernel_rfl)) (fun _ _ _ h => h) (Or.inl ⟨by rfl, ?_⟩) ?_ ?_
                rotate_left
                ·
                 intro w'; go_simp; with_reducible rfl
                rotate_left
                ·
                 exact zp_
                refine pure_ (i := 2) (N := some 28) (v := ?_) (a' := ?_) #[T_,T_,T_,F_,F_,F_,F_,F_,F_,F_,F_,F_,F_] rfl rfl (any_of HT_.out (by kernel_rfl)) (fun _ _ _ h => h) (Or.inl ⟨by rfl, ?_⟩) ?_ ?_
                rotate_left
                ·
                 intro w'; go_simp; with_reducible rfl
                rotate_left
                ·
                 exact zp_
                refine pure_ (i := 3) (N := some 29) (v := ?_) (a' := ?_) #[T_,T_,T_,T_,F_,F_,F_,F_,F_,F_,F_,F_,F_] rfl rfl (any_of HT_.out (by kernel_rfl)) (fun _ _ _ h => h) (Or.inl ⟨by rfl, ?_⟩) ?_ ?_
                rotate_left
                ·
                 intro w'; go_simp; with_reducible rfl
                rotate_left
                ·
                 exact zp_
                refine pure_ (i := 4) (N := some 30) (v := ?_) (a' := ?_) #[T_,T_,T_,T_,T_,F_,F_,F_,F_,F_,F_,F_,F_] rfl rfl (any_of HT_.out (by kernel_rfl)) (fun _ _ _ h => h) (Or.inl ⟨by rfl, ?_⟩) ?_ ?_
                rotate_left
                ·
                 intro w'; go_simp; with_reducible rfl
                rotate_left
                ·
                 exact zp_
                refine pure_ (i := 5) (N := some 31) (v := ?_) (a' := ?_) #[T_,T_,T_,T_,T_,T_,F_,F_,F_,F_,F_,F_,F_] rfl rfl (any_of HT_.out (by kernel_rfl)) (fun _ _ _ h => h) (Or.inl ⟨by rfl, ?_⟩) ?_ ?_
                rotate_left
                ·
                 intro w'; go_simp; with_reducible rfl
                rotate_left
                ·
                 exact zp_
                refine pure_ (i := 7) (N := some 33) (v := ?_) (a' := ?_) #[T_,T_,T_,T_,T_,T_,F_,T_,F_,F_,F_,F_,F_] rfl rfl (any_of HT_.out (by kernel_rfl)) (fun _ _ _ h => h) (Or.inl ⟨by rfl, ?_⟩) ?_ ?_
                rotate_left
                ·
                 intro w'; go_simp; with_reducible rfl
                rotate_left
                ·
                 exact zp_
                refine pure_ (i := 8) (N := some 34) (v := ?_) (a' := ?_) #[T_,T_,T_,T_,T_,T_,F_,T_,T_,F_,F_,F_,F_] rfl rfl (any_of HT_.out (by kernel_rfl)) (fun _ _ _ h => h) (Or.inl ⟨by rfl, ?_⟩) ?_ ?_
                rotate_left
                ·
                 intro w'; go_simp; with_reducible rfl
                rotate_left
                ·
                 exact zp_
                refine pure_ (i := 9) (N := some 35) (v := ?_) (a' := ?_) #[T_,T_,T_,T_,T_,T_,F_,T_,T_,T_,F_,F_,F_] rfl rfl (any_of HT_.out (by kernel_rfl)) (fun _ _ _ h => h) (Or.inl ⟨by rfl, ?_⟩) ?_ ?_
                rotate_left
                ·
                 intro w'; go_simp; with_reducible rfl
                rotate_left
                ·
                 exact zp_
                refine take_ (i := 6) (N := some 32) (v := ?_) (a' := ?_) #[T_,T_,T_,T_,T_,T_,T_,T_,T_,T_,F_,F_,F_] rfl rfl (take_ofW HT_.out HW_.out (by kernel_rfl)) (fun _ _ _ h => h) (Or.inl ⟨by rfl, ?_⟩) hHeld ?_ ?_
                rotate_left
                ·
                 rintro w' ⟨s0, s1, s2, s3, s4, s5, s6, s7⟩
                 go_simp
                 with_reducible rfl
                rotate_left
                ·
                 exact zp_
                refine take_ (i := 10) (N := some 36) (v := ?_) (a' := ?_) #[T_,T_,T_,T_,T_,T_,T_,T_,T_,T_,T_,F_,F_] rfl rfl (take_ofW HT_.out HW_.out (by kernel_rfl)) (fun _ _ _ h => h) (Or.inl ⟨by rfl, ?_⟩) hHeld ?_ ?_
                rotate_left
                ·
                 rintro w' ⟨s0, s1, s2, s3, s4, s5, s6, s7⟩
                 go_simp
                 with_reducible rfl
                rotate_left
                ·
                 exact zp_
                refine one_ (i := 11) (N := some 37) #[T_,T_,T_,T_,T_,T_,T_,T_,T_,T_,T_,T_,F_] rfl rfl (one_of HT_.out (by kernel_rfl)) (by decide) (fun K hK => ?_)
                refine goes_ Try.func43 (by kernel_rfl) rfl #[.agg #[.int .u64 ((rd_T27 l0 x4_1).f0.f0), .int .i64 ((rd_T27 l0 x4_1).f0.f1), .int .u64 ((rd_T27 l0 x4_1).f1), .int .i64 ((rd_T27 l0 x4_1).f2)], .agg #[.int .u64 ((rd_T27 x3_1 x7_2).f0.f0), .int .i64 ((rd_T27 x3_1 x7_2).f0.f1), .int .u64 ((rd_T27 x3_1 x7_2).f1), .int .i64 ((rd_T27 x3_1 x7_2).f2)]] (by rfl) rfl rfl za_ ?_
                with_reducible refine (folkmootref05_Less.calls k2 ((rd_T27 l0 x4_1).f0.f0) ((rd_T27 l0 x4_1).f0.f1) ((rd_T27 l0 x4_1).f1) ((rd_T27 l0 x4_1).f2) ((rd_T27 x3_1 x7_2).f0.f0) ((rd_T27 x3_1 x7_2).f0.f1) ((rd_T27 x3_1 x7_2).f1) ((rd_T27 x3_1 x7_2).f2) true _ A19.out).mono ?_
                rintro e w24 ⟨rfl, hb⟩
                have HS4_ := (hb.cell (World.block_lt_of_cell? _ _ (hHeld.2.2.2.2.1))).trans (hHeld.2.2.2.2.1)
                have HS5_ := (hb.cell (World.block_lt_of_cell? _ _ (hHeld.2.2.2.2.2.1))).trans (hHeld.2.2.2.2.2.1)
                have HS6_ := (hb.cell (World.block_lt_of_cell? _ _ (hHeld.2.2.2.2.2.2.1))).trans (hHeld.2.2.2.2.2.2.1)
                have HS7_ := (hb.cell (World.block_lt_of_cell? _ _ (hHeld.2.2.2.2.2.2.2))).trans (hHeld.2.2.2.2.2.2.2)
                refine ⟨_, rfl, ?_⟩
                have n0_ := Aside0.mk (Kd.R_below (zr_ HO_3) hb)
                have n1_ := Aside0.mk (Kd.R_below (zr_ HO_5) hb)
                have n2_ := Aside0.mk (below_step zb_ hb)
                clear HO_3
                clear HO_5
                clear HB
                have HO_3 := n0_
                have HO_5 := n1_
                have HB := n2_
                clear n0_ n1_ n2_
                (try clear hb)
                (try clear hb2)
                (try clear hk)
                (try clear hi)
                refine hK.out _ _ ⟨((HB.out.cell (World.block_lt_of_cell? w _ hw415_0)).trans hw415_0), ((HB.out.cell (World.block_lt_of_cell? w _ hw415_1)).trans hw415_1), ((HB.out.cell (World.block_lt_of_cell? w _ hw415_2)).trans hw415_2), ((HB.out.cell (World.block_lt_of_cell? w _ hw415_3)).trans hw415_3), HS4_, HS5_, HS6_, HS7_⟩ (fun hHeld => ?_)
                clear hK K
                refine norm_ (a' := ?_) ?_ ?_
                rotate_left
                ·
                 show Act.put _ (some 37) _ = _
                 simp only [Act.put, List.setIfInBounds_toArray, List.set_cons_zero, List.set_cons_succ, i64_w, i32_w]
                 rfl
                refine pure_ (i := 12) (N := some 38) (v := ?_) (a' := ?_) #[T_,T_,T_,T_,T_,T_,T_,T_,T_,T_,T_,T_,T_] rfl rfl (any_of HT_.out (by kernel_rfl)) (fun _ _ _ h => h) (Or.inl ⟨by rfl, ?_⟩) ?_ ?_
                rotate_left
                ·
                 intro w'; go_simp; with_reducible rfl
                rotate_left
                ·
                 exact zp_
                refine done_ (done_of HT_.out (by kernel_rfl)) ?_
                (try clear hHeld); (try clear HS0_); (try clear HS1_); (try clear HS2_); (try clear HS3_); (try clear HS4_); (try clear HS5_); (try clear HS6_); (try clear HS7_)
                have p418 : 0 ≤ (x4_1 : Int) := of_decide_eq_true zs_
                have q418 : x4_1 < (l0.length : Int) := of_decide_eq_true zs_
                obtain ⟨ad418, e418, hx418_0, hx418_1, hx418_2, hx418_3⟩ := at_T27 HR0.out x4_1 p418 q418
                obtain rfl : ad409 = ad418 := (by injection e418)
                replace hx418_0 := (HB.out.cell (World.block_lt_of_cell? w _ hx418_0)).trans hx418_0
                replace hx418_1 := (HB.out.cell (World.block_lt_of_cell? w _ hx418_1)).trans hx418_1
                replace hx418_2 := (HB.out.cell (World.block_lt_of_cell? w _ hx418_2)).trans hx418_2
                replace hx418_3 := (HB.out.cell (World.block_lt_of_cell? w _ hx418_3)).trans hx418_3
                replace p418 := eq_true p418
                replace q418 := eq_true q418
                try go_wp2_with (first | ((with_reducible refine gate_builtin (b := .append) (xs := #[.tmp 39, .tmp 44]) rfl ?_); at_builtin; refine Kd.R_append k27 (w0 := w) w.heap.size rfl (.tmp 39) (.tmp 44) 41 27 (.agg #[(.int .u64 0), (.int .i64 0), (.int .u64 0), (.int .i64 0)]) 32 rfl Try.underlying41 info27 rfl (by decide) (by omega) u5 x5_2 (⟨(⟨(rd_T27 l0 x4_1).f0.f0, (rd_T27 l0 x4_1).f0.f1⟩ : S25), (rd_T27 l0 x4_1).f1, (rd_T27 l0 x4_1).f2⟩ : S27) [.int .u64 ((rd_T27 l0 x4_1).f0.f0), .int .i64 ((rd_T27 l0 x4_1).f0.f1), .int .u64 ((rd_T27 l0 x4_1).f1), .int .i64 ((rd_T27 l0 x4_1).f2)] (fun k_ => some k_ ≠ (.slice (some ad416) x3_1.length co8 : Value).ownBlock) (fun _ => False) rfl rfl ?aP (fun _ hk => hk.elim) ?aF ?aO ?aB ?aS ?aL ?_; (case aP => exact k27_mkM _ _ _ (⟨(⟨(rd_T27 l0 x4_1).f0.f0, (rd_T27 l0 x4_1).f0.f1⟩ : S25), (rd_T27 l0 x4_1).f1, (rd_T27 l0 x4_1).f2⟩ : S27)); (case aB => exact zb_); (case aF => exact (fun k_ hk => Kd.fresh' (Kd.R_lt (zr_ HO_3)) k_ hk)); (case aO => exact (zr_ HO_5)); (case aS => exact (below_size zb_)); (case aL => have := LMc21.out; omega); intro v420 w25 ho hb hg hat; rw [← Ny419.out] at ho; have n0_ := Aside0.mk (Kd.R_after (ok := (fun _ => True)) (by (with_reducible repeat (first | apply Kd.R_alloc | apply Kd.R_drewN | apply Kd.R_drew)); exact Kd.R_mono HO_3.out (fun _ hk => ⟨trivial, hk⟩)) hg hat); have n1_ := Aside0.mk (hb); have n2_ := Aside0.mk (ho); clear HO_3; clear HB; clear HO_5; have HO_3 := n0_; have HB := n1_; have HO421 := n2_; clear n0_ n1_ n2_; clear ho hb hg hat; have p422 : 0 ≤ (x7_2 : Int) := of_decide_eq_true zs_; have q422 : x7_2 < (x3_1.length : Int) := of_decide_eq_true zs_; obtain ⟨ad422, e422, hx422_0, hx422_1, hx422_2, hx422_3⟩ := at_T27 (Kd.R_reads' HO_3.out).2.2 x7_2 p422 q422; obtain rfl : ad416 = ad422 := (by injection e422); replace p422 := eq_true p422; replace q422 := eq_true q422) | ((with_reducible refine gate_builtin (b := .append) (xs := #[.tmp 46, .tmp 51]) rfl ?_); at_builtin; refine Kd.R_append k27 (w0 := w) w.heap.size rfl (.tmp 46) (.tmp 51) 41 27 (.agg #[(.int .u64 0), (.int .i64 0), (.int .u64 0), (.int .i64 0)]) 32 rfl Try.underlying41 info27 rfl (by decide) (by omega) v420 y419 (⟨(⟨(rd_T27 x3_1 x7_2).f0.f0, (rd_T27 x3_1 x7_2).f0.f1⟩ : S25), (rd_T27 x3_1 x7_2).f1, (rd_T27 x3_1 x7_2).f2⟩ : S27) [.int .u64 ((rd_T27 x3_1 x7_2).f0.f0), .int .i64 ((rd_T27 x3_1 x7_2).f0.f1), .int .u64 ((rd_T27 x3_1 x7_2).f1), .int .i64 ((rd_T27 x3_1 x7_2).f2)] (fun k_ => some k_ ≠ (.slice (some ad416) x3_1.length co8 : Value).ownBlock) (fun _ => False) rfl rfl ?aP (fun _ hk => hk.elim) ?aF ?aO ?aB ?aS ?aL ?_; (case aP => exact k27_mkM _ _ _ (⟨(⟨(rd_T27 x3_1 x7_2).f0.f0, (rd_T27 x3_1 x7_2).f0.f1⟩ : S25), (rd_T27 x3_1 x7_2).f1, (rd_T27 x3_1 x7_2).f2⟩ : S27)); (case aB => exact zb_); (case aF => exact (fun k_ hk => Kd.fresh' (Kd.R_lt (zr_ HO_3)) k_ hk)); (case aO => exact (zr_ HO421)); (case aS => exact (below_size zb_)); (case aL => have := LMc22.out; omega); intro v424 w26 ho hb hg hat; rw [← Ny423.out] at ho; have n0_ := Aside0.mk (Kd.R_after (ok := (fun _ => True)) (zr_ HO_3) hg hat); have n1_ := Aside0.mk (hb); have n2_ := Aside0.mk (ho); clear HO_3; clear HB; clear HO421; have HO_3 := n0_; have HB := n1_; have HO425 := n2_; clear n0_ n1_ n2_; clear ho hb hg hat))
                go_roundg k2
                case measure => have := HK1.out; have := HK2.out; omega
                case rel => exact ⟨(y423), (true), (wrap64 (x7_2 + 1)), (by first | rfl | (simp; done) | (simp [*]; done)), (by first | rfl | (simp; done) | (simp [*]; done)), H', ⟨by have := HK1.out; have := HK2.out; omega⟩, ⟨by (with_reducible repeat (first | apply Kd.R_alloc | apply Kd.R_drewN | apply Kd.R_drew)); exact Kd.R_mono HO_3.out (fun _ hk => hk.2)⟩, ⟨by (with_reducible repeat (first | apply Kd.R_alloc | apply Kd.R_drewN | apply Kd.R_drew)); exact HO425.out⟩, ⟨by repeat (first | (with_reducible first | exact HB.out | apply below_alloc | apply pw_below_drewN | apply below_drew1) | exact HB.out)⟩⟩
               ·
                rw [if_neg c22] at H
                exact absurd H (by simp)
              ·
               rw [if_neg c21] at H
               exact absurd H (by simp)
             ·
              replace c20 := Bool.eq_false_iff.mpr c20
              subst c20
              have H1 : (if x5_2.length < 4398046511104 then (folkmootref05_Sort.l1 k2 l0 x3_1 x4_1 (x5_2 ++ [(⟨(⟨(rd_T27 x3_1 x7_2).f0.f0, (rd_T27 x3_1 x7_2).f0.f1⟩ : S25), (rd_T27 x3_1 x7_2).f1, (rd_T27 x3_1 x7_2).f2⟩ : S27)]) false (wrap64 (x7_2 + 1))) else (none)) = some r := by rw [if_neg (show ¬ (false = true) by decide)] at H; exact H
              clear H
              have H := H1
              clear H1
              by_cases c27 : x5_2.length < 4398046511104
              ·
               rw [if_pos c27] at H
               have LMc27 := Aside0.mk c27
               clear c27
               obtain ⟨y427, hy427⟩ : ∃ y_ : List (S27), y_ = (x5_2 ++ [(⟨(⟨(rd_T27 x3_1 x7_2).f0.f0, (rd_T27 x3_1 x7_2).f0.f1⟩ : S25), (rd_T27 x3_1 x7_2).f1, (rd_T27 x3_1 x7_2).f2⟩ : S27)]) := ⟨_, rfl⟩
               replace H : (folkmootref05_Sort.l1 k2 l0 x3_1 x4_1 y427 false (wrap64 (x7_2 + 1))) = some r := by first | (rw [hy427]; with_reducible exact H) | (have H2_ := (Option.bind_some _ _).symm.trans H; rw [hy427]; with_reducible exact H2_) | (have H2_ := (Option.bind_some _ _).symm.trans H; with_reducible exact H2_) | with_reducible exact H | (rw [hy427]; exact H) | exact H
               have Ny427 := Aside0.mk hy427
               clear hy427
               have H' := Aside0.mk H
               clear H
               try go_wp2
               have n0_ := Aside0.mk (Kd.R_drew HO_3.out)
               have n1_ := Aside0.mk (Kd.R_drew HO_5.out)
               have n2_ := Aside0.mk (below_drew1 HB.out)
               clear HO_3
               clear HO_5
               clear HB
               have HO_3 := n0_
               have HO_5 := n1_
               have HB := n2_
               clear n0_ n1_ n2_
               have p415 : 0 ≤ (x4_1 : Int) := of_decide_eq_true zs_
               have q415 : x4_1 < (l0.length : Int) := of_decide_eq_true zs_
               obtain ⟨ad415, e415, hx415_0, hx415_1, hx415_2, hx415_3⟩ := at_T27 HR0.out x4_1 p415 q415
               have hw415_3 := hx415_3
               have hw415_2 := hx415_2
               have hw415_1 := hx415_1
               have hw415_0 := hx415_0
               obtain rfl : ad409 = ad415 := (by injection e415)
               replace hx415_0 := (HB.out.cell (World.block_lt_of_cell? w _ hx415_0)).trans hx415_0
               replace hx415_1 := (HB.out.cell (World.block_lt_of_cell? w _ hx415_1)).trans hx415_1
               replace hx415_2 := (HB.out.cell (World.block_lt_of_cell? w _ hx415_2)).trans hx415_2
               replace hx415_3 := (HB.out.cell (World.block_lt_of_cell? w _ hx415_3)).trans hx415_3
               replace p415 := eq_true p415
               replace q415 := eq_true q415
               have p416 : 0 ≤ (x7_2 : Int) := of_decide_eq_true zs_
               have q416 : x7_2 < (x3_1.length : Int) := of_decide_eq_true zs_
               obtain ⟨ad416, e416, hx416_0, hx416_1, hx416_2, hx416_3⟩ := at_T27 (Kd.R_reads' HO_3.out).2.2 x7_2 p416 q416
               cases e416
               replace p416 := eq_true p416
               replace q416 := eq_true q416
               refine start_ (n := 13) (S := fun w' => w'.cell? (ad409.add ((x4_1).toNat * 4)) = some (.int .u64 ((rd_T27 l0 x4_1).f0.f0)) ∧ w'.cell? ⟨(ad409.add ((x4_1).toNat * 4)).block, (ad409.add ((x4_1).toNat * 4)).off + 1, none⟩ = some (.int .i64 ((rd_T27 l0 x4_1).f0.f1)) ∧ w'.cell? ⟨(ad409.add ((x4_1).toNat * 4)).block, (ad409.add ((x4_1).toNat * 4)).off + 2, none⟩ = some (.int .u64 ((rd_T27 l0 x4_1).f1)) ∧ w'.cell? ⟨(ad409.add ((x4_1).toNat * 4)).block, (ad409.add ((x4_1).toNat * 4)).off + 3, none⟩ = some (.int .i64 ((rd_T27 l0 x4_1).f2)) ∧ w'.cell? (ad416.add ((x7_2).toNat * 4)) = some (.int .u64 ((rd_T27 x3_1 x7_2).f0.f0)) ∧ w'.cell? ⟨(ad416.add ((x7_2).toNat * 4)).block, (ad416.add ((x7_2).toNat * 4)).off + 1, none⟩ = some (.int .i64 ((rd_T27 x3_1 x7_2).f0.f1)) ∧ w'.cell? ⟨(ad416.add ((x7_2).toNat * 4)).block, (ad416.add ((x7_2).toNat * 4)).off + 2, none⟩ = some (.int .u64 ((rd_T27 x3_1 x7_2).f1)) ∧ w'.cell? ⟨(ad416.add ((x7_2).toNat * 4)).block, (ad416.add ((x7_2).toNat * 4)).off + 3, none⟩ = some (.int .i64 ((rd_T27 x3_1 x7_2).f2))) (ds := []) #[F_,F_,F_,F_,F_,F_,F_,F_,F_,F_,F_,F_,F_] (by kernel_rfl) rfl rfl ⟨((HB.out.cell (World.block_lt_of_cell? w _ hw415_0)).trans hw415_0), ((HB.out.cell (World.block_lt_of_cell? w _ hw415_1)).trans hw415_1), ((HB.out.cell (World.block_lt_of_cell? w _ hw415_2)).trans hw415_2), ((HB.out.cell (World.block_lt_of_cell? w _ hw415_3)).trans hw415_3), hx416_0, hx416_1, hx416_2, hx416_3⟩ (fun hHeld => ?_); refine with_tabW folkmootref05_Sort.tab11 folkmootref05_Sort.bits11 (fun HT_ HW_ => ?_)
               generalize wr.drew = w28 at HO_3 HO_5 HB hx415_0 hx415_1 hx415_2 hx415_3 hx416_0 hx416_1 hx416_2 hx416_3 hHeld ⊢
               refine pure_ (i := 0) (N := some 26) (v := ?_) (a' := ?_) #[T_,F_,F_,F_,F_,F_,F_,F_,F_,F_,F_,F_,F_] rfl rfl (any_of HT_.out (by kernel_rfl)) (fun _ _ _ h => h) (Or.inl ⟨by rfl, ?_⟩) ?_ ?_
               rotate_left
               ·
                intro w'; go_simp; with_reducible rfl
               rotate_left
               ·
                exact zp_
               refine pure_ (i := 1) (N := some 27) (v := ?_) (a' := ?_) #[T_,T_,F_,F_,F_,F_,F_,F_,F_,F_,F_,F_,F_] rfl rfl (any_of HT_.out (by kernel_rfl)) (fun _ _ _ h => h) (Or.inl ⟨by rfl, ?_⟩) ?_ ?_
               rotate_left
               ·
                intro w'; go_simp; with_reducible rfl
               rotate_left
               ·
                exact zp_
               refine pure_ (i := 2) (N := some 28) (v := ?_) (a' := ?_) #[T_,T_,T_,F_,F_,F_,F_,F_,F_,F_,F_,F_,F_] rfl rfl (any_of HT_.out (by kernel_rfl)) (fun _ _ _ h => h) (Or.inl ⟨by rfl, ?_⟩) ?_ ?_
               rotate_left
               ·
                intro w'; go_simp; with_reducible rfl
               rotate_left
               ·
                exact zp_
               refine pure_ (i := 3) (N := some 29) (v := ?_) (a' := ?_) #[T_,T_,T_,T_,F_,F_,F_,F_,F_,F_,F_,F_,F_] rfl rfl (any_of HT_.out (by kernel_rfl)) (fun _ _ _ h => h) (Or.inl ⟨by rfl, ?_⟩) ?_ ?_
               rotate_left
               ·
                intro w'; go_simp; with_reducible rfl
               rotate_left
               ·
                exact zp_
               refine pure_ (i := 4) (N := some 30) (v := ?_) (a' := ?_) #[T_,T_,T_,T_,T_,F_,F_,F_,F_,F_,F_,F_,F_] rfl rfl (any_of HT_.out (by kernel_rfl)) (fun _ _ _ h => h) (Or.inl ⟨by rfl, ?_⟩) ?_ ?_
               rotate_left
               ·
                intro w'; go_simp; with_reducible rfl
               rotate_left
               ·
                exact zp_
               refine pure_ (i := 5) (N := some 31) (v := ?_) (a' := ?_) #[T_,T_,T_,T_,T_,T_,F_,F_,F_,F_,F_,F_,F_] rfl rfl (any_of HT_.out (by kernel_rfl)) (fun _ _ _ h => h) (Or.inl ⟨by rfl, ?_⟩) ?_ ?_
               rotate_left
               ·
                intro w'; go_simp; with_reducible rfl
               rotate_left
               ·
                exact zp_
               refine pure_ (i := 7) (N := some 33) (v := ?_) (a' := ?_) #[T_,T_,T_,T_,T_,T_,F_,T_,F_,F_,F_,F_,F_] rfl rfl (any_of HT_.out (by kernel_rfl)) (fun _ _ _ h => h) (Or.inl ⟨by rfl, ?_⟩) ?_ ?_
               rotate_left
               ·
                intro w'; go_simp; with_reducible rfl
               rotate_left
               ·
                exact zp_
               refine pure_ (i := 8) (N := some 34) (v := ?_) (a' := ?_) #[T_,T_,T_,T_,T_,T_,F_,T_,T_,F_,F_,F_,F_] rfl rfl (any_of HT_.out (by kernel_rfl)) (fun _ _ _ h => h) (Or.inl ⟨by rfl, ?_⟩) ?_ ?_
               rotate_left
               ·
                intro w'; go_simp; with_reducible rfl
               rotate_left
               ·
                exact zp_
               refine pure_ (i := 9) (N := some 35) (v := ?_) (a' := ?_) #[T_,T_,T_,T_,T_,T_,F_,T_,T_,T_,F_,F_,F_] rfl rfl (any_of HT_.out (by kernel_rfl)) (fun _ _ _ h => h) (Or.inl ⟨by rfl, ?_⟩) ?_ ?_
               rotate_left
               ·
                intro w'; go_simp; with_reducible rfl
               rotate_left
               ·
                exact zp_
               refine take_ (i := 6) (N := some 32) (v := ?_) (a' := ?_) #[T_,T_,T_,T_,T_,T_,T_,T_,T_,T_,F_,F_,F_] rfl rfl (take_ofW HT_.out HW_.out (by kernel_rfl)) (fun _ _ _ h => h) (Or.inl ⟨by rfl, ?_⟩) hHeld ?_ ?_
               rotate_left
               ·
                rintro w' ⟨s0, s1, s2, s3, s4, s5, s6, s7⟩
                go_simp
                with_reducible rfl
               rotate_left
               ·
                exact zp_
               refine take_ (i := 10) (N := some 36) (v := ?_) (a' := ?_) #[T_,T_,T_,T_,T_,T_,T_,T_,T_,T_,T_,F_,F_] rfl rfl (take_ofW HT_.out HW_.out (by kernel_rfl)) (fun _ _ _ h => h) (Or.inl ⟨by rfl, ?_⟩) hHeld ?_ ?_
               rotate_left
               ·
                rintro w' ⟨s0, s1, s2, s3, s4, s5, s6, s7⟩
                go_simp
                with_reducible rfl
               rotate_left
               ·
                exact zp_
               refine one_ (i := 11) (N := some 37) #[T_,T_,T_,T_,T_,T_,T_,T_,T_,T_,T_,T_,F_] rfl rfl (one_of HT_.out (by kernel_rfl)) (by decide) (fun K hK => ?_)
               refine goes_ Try.func43 (by kernel_rfl) rfl #[.agg #[.int .u64 ((rd_T27 l0 x4_1).f0.f0), .int .i64 ((rd_T27 l0 x4_1).f0.f1), .int .u64 ((rd_T27 l0 x4_1).f1), .int .i64 ((rd_T27 l0 x4_1).f2)], .agg #[.int .u64 ((rd_T27 x3_1 x7_2).f0.f0), .int .i64 ((rd_T27 x3_1 x7_2).f0.f1), .int .u64 ((rd_T27 x3_1 x7_2).f1), .int .i64 ((rd_T27 x3_1 x7_2).f2)]] (by rfl) rfl rfl za_ ?_
               with_reducible refine (folkmootref05_Less.calls k2 ((rd_T27 l0 x4_1).f0.f0) ((rd_T27 l0 x4_1).f0.f1) ((rd_T27 l0 x4_1).f1) ((rd_T27 l0 x4_1).f2) ((rd_T27 x3_1 x7_2).f0.f0) ((rd_T27 x3_1 x7_2).f0.f1) ((rd_T27 x3_1 x7_2).f1) ((rd_T27 x3_1 x7_2).f2) false _ A19.out).mono ?_
               rintro e w29 ⟨rfl, hb⟩
               have HS4_ := (hb.cell (World.block_lt_of_cell? _ _ (hHeld.2.2.2.2.1))).trans (hHeld.2.2.2.2.1)
               have HS5_ := (hb.cell (World.block_lt_of_cell? _ _ (hHeld.2.2.2.2.2.1))).trans (hHeld.2.2.2.2.2.1)
               have HS6_ := (hb.cell (World.block_lt_of_cell? _ _ (hHeld.2.2.2.2.2.2.1))).trans (hHeld.2.2.2.2.2.2.1)
               have HS7_ := (hb.cell (World.block_lt_of_cell? _ _ (hHeld.2.2.2.2.2.2.2))).trans (hHeld.2.2.2.2.2.2.2)
               refine ⟨_, rfl, ?_⟩
               have n0_ := Aside0.mk (Kd.R_below (zr_ HO_3) hb)
               have n1_ := Aside0.mk (Kd.R_below (zr_ HO_5) hb)
               have n2_ := Aside0.mk (below_step zb_ hb)
               clear HO_3
               clear HO_5
               clear HB
               have HO_3 := n0_
               have HO_5 := n1_
               have HB := n2_
               clear n0_ n1_ n2_
               (try clear hb)
               (try clear hb2)
               (try clear hk)
               (try clear hi)
               refine hK.out _ _ ⟨((HB.out.cell (World.block_lt_of_cell? w _ hw415_0)).trans hw415_0), ((HB.out.cell (World.block_lt_of_cell? w _ hw415_1)).trans hw415_1), ((HB.out.cell (World.block_lt_of_cell? w _ hw415_2)).trans hw415_2), ((HB.out.cell (World.block_lt_of_cell? w _ hw415_3)).trans hw415_3), HS4_, HS5_, HS6_, HS7_⟩ (fun hHeld => ?_)
               clear hK K
               refine norm_ (a' := ?_) ?_ ?_
               rotate_left
               ·
                show Act.put _ (some 37) _ = _
                simp only [Act.put, List.setIfInBounds_toArray, List.set_cons_zero, List.set_cons_succ, i64_w, i32_w]
                rfl
               refine pure_ (i := 12) (N := some 38) (v := ?_) (a' := ?_) #[T_,T_,T_,T_,T_,T_,T_,T_,T_,T_,T_,T_,T_] rfl rfl (any_of HT_.out (by kernel_rfl)) (fun _ _ _ h => h) (Or.inl ⟨by rfl, ?_⟩) ?_ ?_
               rotate_left
               ·
                intro w'; go_simp; with_reducible rfl
               rotate_left
               ·
                exact zp_
               refine done_ (done_of HT_.out (by kernel_rfl)) ?_
               (try clear hHeld); (try clear HS0_); (try clear HS1_); (try clear HS2_); (try clear HS3_); (try clear HS4_); (try clear HS5_); (try clear HS6_); (try clear HS7_)
               have p426 : 0 ≤ (x7_2 : Int) := of_decide_eq_true zs_
               have q426 : x7_2 < (x3_1.length : Int) := of_decide_eq_true zs_
               obtain ⟨ad426, e426, hx426_0, hx426_1, hx426_2, hx426_3⟩ := at_T27 (Kd.R_reads' HO_3.out).2.2 x7_2 p426 q426
               obtain rfl : ad416 = ad426 := (by injection e426)
               replace p426 := eq_true p426
               replace q426 := eq_true q426
               try go_wp2_with (first | ((with_reducible refine gate_builtin (b := .append) (xs := #[.tmp 46, .tmp 51]) rfl ?_); at_builtin; refine Kd.R_append k27 (w0 := w) w.heap.size rfl (.tmp 46) (.tmp 51) 41 27 (.agg #[(.int .u64 0), (.int .i64 0), (.int .u64 0), (.int .i64 0)]) 32 rfl Try.underlying41 info27 rfl (by decide) (by omega) u5 x5_2 (⟨(⟨(rd_T27 x3_1 x7_2).f0.f0, (rd_T27 x3_1 x7_2).f0.f1⟩ : S25), (rd_T27 x3_1 x7_2).f1, (rd_T27 x3_1 x7_2).f2⟩ : S27) [.int .u64 ((rd_T27 x3_1 x7_2).f0.f0), .int .i64 ((rd_T27 x3_1 x7_2).f0.f1), .int .u64 ((rd_T27 x3_1 x7_2).f1), .int .i64 ((rd_T27 x3_1 x7_2).f2)] (fun k_ => some k_ ≠ (.slice (some ad416) x3_1.length co8 : Value).ownBlock) (fun _ => False) rfl rfl ?aP (fun _ hk => hk.elim) ?aF ?aO ?aB ?aS ?aL ?_; (case aP => exact k27_mkM _ _ _ (⟨(⟨(rd_T27 x3_1 x7_2).f0.f0, (rd_T27 x3_1 x7_2).f0.f1⟩ : S25), (rd_T27 x3_1 x7_2).f1, (rd_T27 x3_1 x7_2).f2⟩ : S27)); (case aB => exact zb_); (case aF => exact (fun k_ hk => Kd.fresh' (Kd.R_lt (zr_ HO_3)) k_ hk)); (case aO => exact (zr_ HO_5)); (case aS => exact (below_size zb_)); (case aL => have := LMc27.out; omega); intro v428 w30 ho hb hg hat; rw [← Ny427.out] at ho; have n0_ := Aside0.mk (Kd.R_after (ok := (fun _ => True)) (by (with_reducible repeat (first | apply Kd.R_alloc | apply Kd.R_drewN | apply Kd.R_drew)); exact Kd.R_mono HO_3.out (fun _ hk => ⟨trivial, hk⟩)) hg hat); have n1_ := Aside0.mk (hb); have n2_ := Aside0.mk (ho); clear HO_3; clear HB; clear HO_5; have HO_3 := n0_; have HB := n1_; have HO429 := n2_; clear n0_ n1_ n2_; clear ho hb hg hat))
               go_roundg k2
               case measure => have := HK1.out; have := HK2.out; omega
               case rel => exact ⟨(y427), (false), (wrap64 (x7_2 + 1)), (by first | rfl | (simp; done) | (simp [*]; done)), (by first | rfl | (simp; done) | (simp [*]; done)), H', ⟨by have := HK1.out; have := HK2.out; omega⟩, ⟨by (with_reducible repeat (first | apply Kd.R_alloc | apply Kd.R_drewN | apply Kd.R_drew)); exact Kd.R_mono HO_3.out (fun _ hk => hk.2)⟩, ⟨by (with_reducible repeat (first | apply Kd.R_alloc | apply Kd.R_drewN | apply Kd.R_drew)); exact HO429.out⟩, ⟨by repeat (first | (with_reducible first | exact HB.out | apply below_alloc | apply pw_below_drewN | apply below_drew1) | exact HB.out)⟩⟩
              ·
               rw [if_neg c27] at H
               exact absurd H (by simp)
            ·
             rw [if_neg c18] at H
             exact absurd H (by simp)
           ·
            rw [if_neg c17] at H
            exact absurd H (by simp)
          ·
           rw [if_neg c16] at H
           exact absurd H (by simp)
        ·
         rw [if_neg c10] at H
         have c10b0 : decide (x7_2 < (x3_1.length : Int)) = false := decide_eq_false c10
         clear c10
         by_cases c31 : x6_2 = true
         ·
          subst c31
          have H1 : (folkmootref05_Sort.l0 k2 l0 x5_2 (wrap64 (x4_1 + 1))) = some r := by rw [if_pos rfl] at H; exact H
          clear H
          have H := H1
          clear H1
          have H' := Aside0.mk H
          clear H
          go_wp2
          go_roundg k2
          case measure => have := HK1.out; have := HK2.out; omega
          case rel => exact ⟨(x5_2), (wrap64 (x4_1 + 1)), (by first | rfl | (simp; done) | (simp [*]; done)), H', ⟨by have := HK1.out; have := HK2.out; omega⟩, ⟨by (with_reducible repeat (first | apply Kd.R_alloc | apply Kd.R_drewN | apply Kd.R_drew)); exact Kd.R_mono HO_5.out (fun _ hk => trivial)⟩, ⟨by repeat (first | (with_reducible first | exact HB.out | apply below_alloc | apply pw_below_drewN | apply below_drew1) | exact HB.out)⟩⟩
         ·
          replace c31 := Bool.eq_false_iff.mpr c31
          subst c31
          have H1 : (if 0 ≤ x4_1 then (if x4_1 < (l0.length : Int) then (if x5_2.length < 4398046511104 then (folkmootref05_Sort.l0 k2 l0 (x5_2 ++ [(⟨(⟨(rd_T27 l0 x4_1).f0.f0, (rd_T27 l0 x4_1).f0.f1⟩ : S25), (rd_T27 l0 x4_1).f1, (rd_T27 l0 x4_1).f2⟩ : S27)]) (wrap64 (x4_1 + 1))) else (none)) else (none)) else (none)) = some r := by rw [if_neg (show ¬ (false = true) by decide)] at H; exact H
          clear H
          have H := H1
          clear H1
          by_cases c32 : 0 ≤ x4_1
          ·
           rw [if_pos c32] at H
           have c32b0 : decide (0 ≤ x4_1) = true := decide_eq_true c32
           clear c32
           by_cases c33 : x4_1 < (l0.length : Int)
           ·
            rw [if_pos c33] at H
            have c33b0 : decide (x4_1 < (l0.length : Int)) = true := decide_eq_true c33
            clear c33
            by_cases c34 : x5_2.length < 4398046511104
            ·
             rw [if_pos c34] at H
             have LMc34 := Aside0.mk c34
             clear c34
             obtain ⟨y431, hy431⟩ : ∃ y_ : List (S27), y_ = (x5_2 ++ [(⟨(⟨(rd_T27 l0 x4_1).f0.f0, (rd_T27 l0 x4_1).f0.f1⟩ : S25), (rd_T27 l0 x4_1).f1, (rd_T27 l0 x4_1).f2⟩ : S27)]) := ⟨_, rfl⟩
             replace H : (folkmootref05_Sort.l0 k2 l0 y431 (wrap64 (x4_1 + 1))) = some r := by first | (rw [hy431]; with_reducible exact H) | (have H2_ := (Option.bind_some _ _).symm.trans H; rw [hy431]; with_reducible exact H2_) | (have H2_ := (Option.bind_some _ _).symm.trans H; with_reducible exact H2_) | with_reducible exact H | (rw [hy431]; exact H) | exact H
             have Ny431 := Aside0.mk hy431
             clear hy431
             have H' := Aside0.mk H
             clear H
             have p430 : 0 ≤ (x4_1 : Int) := of_decide_eq_true zs_
             have q430 : x4_1 < (l0.length : Int) := of_decide_eq_true zs_
             obtain ⟨ad430, e430, hx430_0, hx430_1, hx430_2, hx430_3⟩ := at_T27 HR0.out x4_1 p430 q430
             obtain rfl : ad409 = ad430 := (by injection e430)
             replace hx430_0 := (HB.out.cell (World.block_lt_of_cell? w _ hx430_0)).trans hx430_0
             replace hx430_1 := (HB.out.cell (World.block_lt_of_cell? w _ hx430_1)).trans hx430_1
             replace hx430_2 := (HB.out.cell (World.block_lt_of_cell? w _ hx430_2)).trans hx430_2
             replace hx430_3 := (HB.out.cell (World.block_lt_of_cell? w _ hx430_3)).trans hx430_3
             replace p430 := eq_true p430
             replace q430 := eq_true q430
             go_wp2_with (first | ((with_reducible refine gate_builtin (b := .append) (xs := #[.tmp 55, .tmp 60]) rfl ?_); at_builtin; refine Kd.R_append k27 (w0 := w) w.heap.size rfl (.tmp 55) (.tmp 60) 41 27 (.agg #[(.int .u64 0), (.int .i64 0), (.int .u64 0), (.int .i64 0)]) 32 rfl Try.underlying41 info27 rfl (by decide) (by omega) u5 x5_2 (⟨(⟨(rd_T27 l0 x4_1).f0.f0, (rd_T27 l0 x4_1).f0.f1⟩ : S25), (rd_T27 l0 x4_1).f1, (rd_T27 l0 x4_1).f2⟩ : S27) [.int .u64 ((rd_T27 l0 x4_1).f0.f0), .int .i64 ((rd_T27 l0 x4_1).f0.f1), .int .u64 ((rd_T27 l0 x4_1).f1), .int .i64 ((rd_T27 l0 x4_1).f2)] (fun k_ => some k_ ≠ (.slice Ao8 x3_1.length co8 : Value).ownBlock) (fun _ => False) rfl rfl ?aP (fun _ hk => hk.elim) ?aF ?aO ?aB ?aS ?aL ?_; (case aP => exact k27_mkM _ _ _ (⟨(⟨(rd_T27 l0 x4_1).f0.f0, (rd_T27 l0 x4_1).f0.f1⟩ : S25), (rd_T27 l0 x4_1).f1, (rd_T27 l0 x4_1).f2⟩ : S27)); (case aB => exact zb_); (case aF => exact (fun k_ hk => Kd.fresh' (Kd.R_lt (zr_ HO_3)) k_ hk)); (case aO => exact (zr_ HO_5)); (case aS => exact (below_size zb_)); (case aL => have := LMc34.out; omega); intro v432 w35 ho hb hg hat; rw [← Ny431.out] at ho; have n0_ := Aside0.mk (Kd.R_after (ok := (fun _ => True)) (by (with_reducible repeat (first | apply Kd.R_alloc | apply Kd.R_drewN | apply Kd.R_drew)); exact Kd.R_mono HO_3.out (fun _ hk => ⟨trivial, hk⟩)) hg hat); have n1_ := Aside0.mk (hb); have n2_ := Aside0.mk (ho); clear HO_3; clear HB; clear HO_5; have HO_3 := n0_; have HB := n1_; have HO433 := n2_; clear n0_ n1_ n2_; clear ho hb hg hat))
             go_roundg k2
             case measure => have := HK1.out; have := HK2.out; omega
             case rel => exact ⟨(y431), (wrap64 (x4_1 + 1)), (by first | rfl | (simp; done) | (simp [*]; done)), H', ⟨by have := HK1.out; have := HK2.out; omega⟩, ⟨by (with_reducible repeat (first | apply Kd.R_alloc | apply Kd.R_drewN | apply Kd.R_drew)); exact Kd.R_mono HO433.out (fun _ hk => trivial)⟩, ⟨by repeat (first | (with_reducible first | exact HB.out | apply below_alloc | apply pw_below_drewN | apply below_drew1) | exact HB.out)⟩⟩
            ·
             rw [if_neg c34] at H
             exact absurd H (by simp)
           ·
            rw [if_neg c33] at H
            exact absurd H (by simp)
          ·
           rw [if_neg c32] at H
           exact absurd H (by simp)
    ·
     rw [if_neg c3] at H
     exact absurd H (by simp)
   ·
    rw [if_neg c2] at H
    have c2b0 : decide (x4_1 < (l0.length : Int)) = false := decide_eq_false c2
    clear c2
    obtain rfl := Option.some.inj H
    go_wp2
    go_ret
    exact ⟨_, by first | rfl | (simp [errW_none, errW_some] <;> rfl) | (simp [*, errW_none, errW_some] <;> rfl), by (with_reducible repeat (first | apply Kd.R_alloc | apply Kd.R_drewN | apply Kd.R_drew)); exact HO_3.out, by repeat (first | (with_reducible first | exact HB.out | apply below_alloc | apply pw_below_drewN | apply below_drew1) | exact HB.out)⟩
end Go.Proofs.Ytioooiflpabngaa.PAll
end
section
namespace Go.Proofs.Ytioooiflpabngaa.PAll
open Go.RowKit Go.Proofs.YtioooiflpabngaaW.PrintWords Go.Proofs.YtioooiflpabngaaW.PrintLast Go.Proofs.YtioooiflpabngaaW.PrintMore
attribute [local go_sem] max2_int min2_int max_two min_two max_three min_three max_four min_four   -- for this text's walks alone
set_option linter.unusedVariables false
set_option linter.unusedSimpArgs false
def folkmootref05_Behind.l0 : Nat → List (S27) → List (S27) → List (S27) → Int → Option ((List (S27)))
 | 0, _, _, _, _ => none
 | k + 1, x0, x5, x6, x7 => if x7 < (x6.length : Int) then (if 0 ≤ x7 then ((folkmootref05_In.f k x0 ((rd_T27 x6 x7).f0.f0) ((rd_T27 x6 x7).f0.f1) ((rd_T27 x6 x7).f1) ((rd_T27 x6 x7).f2)).bind fun t460 => (if t460 = true then (folkmootref05_Behind.l0 k x0 x5 x6 (wrap64 (x7 + 1))) else (if x5.length < 4398046511104 then (folkmootref05_Behind.l0 k x0 (x5 ++ [(⟨(⟨(rd_T27 x6 x7).f0.f0, (rd_T27 x6 x7).f0.f1⟩ : S25), (rd_T27 x6 x7).f1, (rd_T27 x6 x7).f2⟩ : S27)]) x6 (wrap64 (x7 + 1))) else (none)))) else (none)) else (some x5)
def folkmootref05_Behind.f (k : Nat) (l0 : List (S27)) (l1 : List (S27)) : Option ((List (S27))) := if ([] : List (S27)).length + l0.length < 4398046511104 then ((folkmootref05_Sort.f k l1).bind fun t456 => (folkmootref05_Behind.l0 k l0 (([] : List (S27)) ++ l0) t456 0)) else (none)
set_option maxHeartbeats 8000000 in
set_option maxRecDepth 100000 in
theorem folkmootref05_Behind.calls (k : Nat) (A0 : Option Addr) (c0 : Nat) (l0 : List (S27)) (A1 : Option Addr) (c1 : Nat) (l1 : List (S27)) (r : List (S27)) (w : World) (hr0 : Kd.C k27 w A0 l0.length l0) (hc0 : l0.length ≤ c0) (hr1 : Kd.C k27 w A1 l1.length l1) (hc1 : l1.length ≤ c1) (h : folkmootref05_Behind.f k l0 l1 = some r) :
  Calls Try.prog 39 #[.slice A0 l0.length c0, .slice A1 l1.length c1] w fun e w' => ∃ v0_ : Value, e = .returned (v0_) ∧ Kd.R k27 27 w' w.heap.size (fun _ => True) v0_ r ∧ Below w.heap.size w w' := by
 have hu27 := Try.underlying27
 have HR0 := Aside0.mk hr0
 have HC0 := Aside0.mk hc0
 clear hr0 hc0
 have HR1 := Aside0.mk hr1
 have HC1 := Aside0.mk hc1
 clear hr1 hc1
 have HB := Aside0.mk (Below.refl w.heap.size w)
 have H : (if ([] : List (S27)).length + l0.length < 4398046511104 then ((folkmootref05_Sort.f k l1).bind fun t456 => (folkmootref05_Behind.l0 k l0 (([] : List (S27)) ++ l0) t456 0)) else (none)) = some r := h
 clear h
 by_cases c3 : ([] : List (S27)).length + l0.length < 4398046511104
 ·
  rw [if_pos c3] at H
  have LMc3 := Aside0.mk c3
  clear c3
  obtain ⟨y453, hy453⟩ : ∃ y_ : List (S27), y_ = (([] : List (S27)) ++ l0) := ⟨_, rfl⟩
  replace H : ((folkmootref05_Sort.f k l1).bind fun t456 => (folkmootref05_Behind.l0 k l0 y453 t456 0)) = some r := by first | (rw [hy453]; with_reducible exact H) | (have H2_ := (Option.bind_some _ _).symm.trans H; rw [hy453]; with_reducible exact H2_) | (have H2_ := (Option.bind_some _ _).symm.trans H; with_reducible exact H2_) | with_reducible exact H | (rw [hy453]; exact H) | exact H
  have Ny453 := Aside0.mk hy453
  clear hy453
  replace H := Option.bind_eq_some_iff.mp H
  obtain ⟨t456, A40, H⟩ := H
  replace H : (folkmootref05_Behind.l0 k l0 y453 t456 0) = some r := H
  have A4 := Aside0.mk A40
  clear A40
  have H' := Aside0.mk H
  clear H
  go_enter Try.func39, Try.ntmps39
  go_wp2_with (first | ((with_reducible refine gate_builtin (b := .append) (xs := #[.tmp 8, .tmp 9]) rfl ?_); at_builtin; refine Kd.R_append_rows k27 (w0 := w) w.heap.size rfl (.tmp 8) (.tmp 9) 41 27 (.agg #[(.int .u64 0), (.int .i64 0), (.int .u64 0), (.int .i64 0)]) 32 rfl Try.underlying41 info27 rfl (by decide) (by omega) (.slice none 0 0) ([] : List (S27)) l0 _ _ _ (fun _ => True) (fun _ => False) rfl rfl ?aO ?aR (fun _ _ h => h) (fun _ h => h.elim) ?aF ?aB ?aS ?aL ?_; (case aR => repeat (first | exact HR0.out | (with_reducible refine Kd.C_alloc ?_ _) | (with_reducible refine Kd.C_drewN ?_ _) | (with_reducible refine Kd.C_drew ?_))); (case aB => exact zb_); (case aF => exact (fun _ _ => trivial)); (case aO => exact ((Kd.R_nil _ _ _ _ (fun _ => True)))); (case aS => exact (below_size zb_)); (case aL => have := LMc3.out; omega); intro v454 w5 ho hb hg hat; rw [← Ny453.out] at ho; have n0_ := Aside0.mk (hb); have n1_ := Aside0.mk (ho); clear HB; have HB := n0_; have HO455 := n1_; clear n0_ n1_; clear ho hb hg hat) | ((with_reducible refine gate_callee (f := 37) rfl ?_); refine goesL_ (some 12) rfl rfl Try.func37 (by kernel_rfl) rfl #[.slice A1 l1.length c1] rfl za_ ?_; (with_reducible refine (folkmootref05_Sort.calls k _ _ l1 t456 _ ?side1 ?side2 A4.out).mono ?_); (case side1 => exact zc_ HR1 HB); (case side2 => exact HC1.out); rintro e w6 ⟨v457, rfl, ho0, hb⟩; refine ⟨_, rfl, ?_⟩; have n0_ := Aside0.mk (Kd.R_elder' (zr_ HO455) (Kd.R_base ho0) hb); have n1_ := Aside0.mk (Kd.R_lower (Kd.R_new' ho0 (Kd.R_lt (zr_ HO455))) (below_size zb_)); have n2_ := Aside0.mk (below_step zb_ hb); clear HO455; clear HB; have HO455 := n0_; have HO458 := n1_; have HB := n2_; clear n0_ n1_ n2_; (try clear hb); (try clear hb2); (try clear hk); (try clear hi); (try clear ho0)))
  go_loopg [5, 7] k (fun kq v5 v7 w' => ∃ (x5_1 : List (S27)) (x7_1 : Int), v7 = .int .i64 x7_1 ∧ Aside0 (folkmootref05_Behind.l0 kq l0 x5_1 t456 x7_1 = some r) ∧ Aside0 (kq ≤ k) ∧ Aside0 (Kd.R k27 27 w' w.heap.size (fun k_ => some k_ ≠ (v457 : Value).ownBlock) v5 x5_1) ∧ Aside0 (Kd.R k27 27 w' w.heap.size (fun k_ => some k_ ≠ (v5 : Value).ownBlock) v457 t456) ∧ Aside0 (Below w.heap.size w w'))
  case atStart => exact ⟨(y453), (0), (by first | rfl | (simp; done) | (simp [*]; done)), H', ⟨Nat.le_refl _⟩, ⟨by (with_reducible repeat (first | apply Kd.R_alloc | apply Kd.R_drewN | apply Kd.R_drew)); exact Kd.R_mono HO455.out (fun _ hk => hk.2)⟩, ⟨by (with_reducible repeat (first | apply Kd.R_alloc | apply Kd.R_drewN | apply Kd.R_drew)); exact Kd.R_mono HO458.out (fun _ hk => hk.2)⟩, ⟨by repeat (first | (with_reducible first | exact HB.out | apply below_alloc | apply pw_below_drewN | apply below_drew1) | exact HB.out)⟩⟩
  case round =>
   clear H'
   try clear c1
   try clear p2
   try clear c3
   obtain ⟨x5_1, x7_1, rfl, HA, HK1, HO_5, HO_6, HB⟩ := hrel
   cases gk with
   | zero => exact absurd HA.out (by simp [folkmootref05_Behind.l0])
   | succ k1 =>
    have H := HA.out
    clear HA
    simp only [folkmootref05_Behind.l0] at H
    by_cases c7 : x7_1 < (t456.length : Int)
    ·
     rw [if_pos c7] at H
     have c7b0 : decide (x7_1 < (t456.length : Int)) = true := decide_eq_true c7
     clear c7
     by_cases c8 : 0 ≤ x7_1
     ·
      rw [if_pos c8] at H
      have c8b0 : decide (0 ≤ x7_1) = true := decide_eq_true c8
      clear c8
      replace H := Option.bind_eq_some_iff.mp H
      obtain ⟨t460, A90, H⟩ := H
      replace H : (if t460 = true then (folkmootref05_Behind.l0 k1 l0 x5_1 t456 (wrap64 (x7_1 + 1))) else (if x5_1.length < 4398046511104 then (folkmootref05_Behind.l0 k1 l0 (x5_1 ++ [(⟨(⟨(rd_T27 t456 x7_1).f0.f0, (rd_T27 t456 x7_1).f0.f1⟩ : S25), (rd_T27 t456 x7_1).f1, (rd_T27 t456 x7_1).f2⟩ : S27)]) t456 (wrap64 (x7_1 + 1))) else (none))) = some r := H
      have A9 := Aside0.mk A90
      clear A90
      by_cases c10 : t460 = true
      ·
       subst c10
       have H1 : (folkmootref05_Behind.l0 k1 l0 x5_1 t456 (wrap64 (x7_1 + 1))) = some r := by rw [if_pos rfl] at H; exact H
       clear H
       have H := H1
       clear H1
       have H' := Aside0.mk H
       clear H
       obtain ⟨Ao11, co11, eo11⟩ := Kd.R_slice HO_6.out
       subst eo11
       have p459 : 0 ≤ (x7_1 : Int) := of_decide_eq_true zs_
       have q459 : x7_1 < (t456.length : Int) := of_decide_eq_true zs_
       obtain ⟨ad459, e459, hx459_0, hx459_1, hx459_2, hx459_3⟩ := at_T27 (Kd.R_reads' HO_6.out).2.2 x7_1 p459 q459
       cases e459
       replace p459 := eq_true p459
       replace q459 := eq_true q459
       go_wp2_with (first | ((with_reducible refine gate_callee (f := 36) rfl ?_); refine goesL_ (some 24) rfl rfl Try.func36 (by kernel_rfl) rfl #[.slice A0 l0.length c0, .agg #[.int .u64 ((rd_T27 t456 x7_1).f0.f0), .int .i64 ((rd_T27 t456 x7_1).f0.f1), .int .u64 ((rd_T27 t456 x7_1).f1), .int .i64 ((rd_T27 t456 x7_1).f2)]] rfl za_ ?_; (with_reducible refine (folkmootref05_In.calls k1 _ _ l0 ((rd_T27 t456 x7_1).f0.f0) ((rd_T27 t456 x7_1).f0.f1) ((rd_T27 t456 x7_1).f1) ((rd_T27 t456 x7_1).f2) true _ ?side1 ?side2 A9.out).mono ?_); (case side1 => exact zc_ HR0 HB); (case side2 => exact HC0.out); rintro e w12 ⟨rfl, hb⟩; refine ⟨_, rfl, ?_⟩; have n0_ := Aside0.mk (Kd.R_below (zr_ HO_5) hb); have n1_ := Aside0.mk (Kd.R_below (zr_ HO_6) hb); have n2_ := Aside0.mk (below_step zb_ hb); clear HO_5; clear HO_6; clear HB; have HO_5 := n0_; have HO_6 := n1_; have HB := n2_; clear n0_ n1_ n2_; (try clear hb); (try clear hb2); (try clear hk); (try clear hi)))
       go_roundg k1
       case measure => have := HK1.out; omega
       case rel => exact ⟨(x5_1), (wrap64 (x7_1 + 1)), (by first | rfl | (simp; done) | (simp [*]; done)), H', ⟨by have := HK1.out; omega⟩, ⟨by (with_reducible repeat (first | apply Kd.R_alloc | apply Kd.R_drewN | apply Kd.R_drew)); exact HO_5.out⟩, ⟨by (with_reducible repeat (first | apply Kd.R_alloc | apply Kd.R_drewN | apply Kd.R_drew)); exact HO_6.out⟩, ⟨by repeat (first | (with_reducible first | exact HB.out | apply below_alloc | apply pw_below_drewN | apply below_drew1) | exact HB.out)⟩⟩
      ·
       replace c10 := Bool.eq_false_iff.mpr c10
       subst c10
       have H1 : (if x5_1.length < 4398046511104 then (folkmootref05_Behind.l0 k1 l0 (x5_1 ++ [(⟨(⟨(rd_T27 t456 x7_1).f0.f0, (rd_T27 t456 x7_1).f0.f1⟩ : S25), (rd_T27 t456 x7_1).f1, (rd_T27 t456 x7_1).f2⟩ : S27)]) t456 (wrap64 (x7_1 + 1))) else (none)) = some r := by rw [if_neg (show ¬ (false = true) by decide)] at H; exact H
       clear H
       have H := H1
       clear H1
       by_cases c13 : x5_1.length < 4398046511104
       ·
        rw [if_pos c13] at H
        have LMc13 := Aside0.mk c13
        clear c13
        obtain ⟨y462, hy462⟩ : ∃ y_ : List (S27), y_ = (x5_1 ++ [(⟨(⟨(rd_T27 t456 x7_1).f0.f0, (rd_T27 t456 x7_1).f0.f1⟩ : S25), (rd_T27 t456 x7_1).f1, (rd_T27 t456 x7_1).f2⟩ : S27)]) := ⟨_, rfl⟩
        replace H : (folkmootref05_Behind.l0 k1 l0 y462 t456 (wrap64 (x7_1 + 1))) = some r := by first | (rw [hy462]; with_reducible exact H) | (have H2_ := (Option.bind_some _ _).symm.trans H; rw [hy462]; with_reducible exact H2_) | (have H2_ := (Option.bind_some _ _).symm.trans H; with_reducible exact H2_) | with_reducible exact H | (rw [hy462]; exact H) | exact H
        have Ny462 := Aside0.mk hy462
        clear hy462
        have H' := Aside0.mk H
        clear H
        obtain ⟨Ao14, co14, eo14⟩ := Kd.R_slice HO_6.out
        subst eo14
        have p459 : 0 ≤ (x7_1 : Int) := of_decide_eq_true zs_
        have q459 : x7_1 < (t456.length : Int) := of_decide_eq_true zs_
        obtain ⟨ad459, e459, hx459_0, hx459_1, hx459_2, hx459_3⟩ := at_T27 (Kd.R_reads' HO_6.out).2.2 x7_1 p459 q459
        cases e459
        replace p459 := eq_true p459
        replace q459 := eq_true q459
        go_wp2_with (first | ((with_reducible refine gate_callee (f := 36) rfl ?_); refine goesL_ (some 24) rfl rfl Try.func36 (by kernel_rfl) rfl #[.slice A0 l0.length c0, .agg #[.int .u64 ((rd_T27 t456 x7_1).f0.f0), .int .i64 ((rd_T27 t456 x7_1).f0.f1), .int .u64 ((rd_T27 t456 x7_1).f1), .int .i64 ((rd_T27 t456 x7_1).f2)]] rfl za_ ?_; (with_reducible refine (folkmootref05_In.calls k1 _ _ l0 ((rd_T27 t456 x7_1).f0.f0) ((rd_T27 t456 x7_1).f0.f1) ((rd_T27 t456 x7_1).f1) ((rd_T27 t456 x7_1).f2) false _ ?side1 ?side2 A9.out).mono ?_); (case side1 => exact zc_ HR0 HB); (case side2 => exact HC0.out); rintro e w15 ⟨rfl, hb⟩; refine ⟨_, rfl, ?_⟩; have n0_ := Aside0.mk (Kd.R_below (zr_ HO_5) hb); have n1_ := Aside0.mk (Kd.R_below (zr_ HO_6) hb); have n2_ := Aside0.mk (below_step zb_ hb); clear HO_5; clear HO_6; clear HB; have HO_5 := n0_; have HO_6 := n1_; have HB := n2_; clear n0_ n1_ n2_; (try clear hb); (try clear hb2); (try clear hk); (try clear hi); have p461 : 0 ≤ (x7_1 : Int) := of_decide_eq_true zs_; have q461 : x7_1 < (t456.length : Int) := of_decide_eq_true zs_; obtain ⟨ad461, e461, hx461_0, hx461_1, hx461_2, hx461_3⟩ := at_T27 (Kd.R_reads' HO_6.out).2.2 x7_1 p461 q461; obtain rfl : ad459 = ad461 := (by injection e461); replace p461 := eq_true p461; replace q461 := eq_true q461) | ((with_reducible refine gate_builtin (b := .append) (xs := #[.tmp 26, .tmp 31]) rfl ?_); at_builtin; refine Kd.R_append k27 (w0 := w) w.heap.size rfl (.tmp 26) (.tmp 31) 41 27 (.agg #[(.int .u64 0), (.int .i64 0), (.int .u64 0), (.int .i64 0)]) 32 rfl Try.underlying41 info27 rfl (by decide) (by omega) u5 x5_1 (⟨(⟨(rd_T27 t456 x7_1).f0.f0, (rd_T27 t456 x7_1).f0.f1⟩ : S25), (rd_T27 t456 x7_1).f1, (rd_T27 t456 x7_1).f2⟩ : S27) [.int .u64 ((rd_T27 t456 x7_1).f0.f0), .int .i64 ((rd_T27 t456 x7_1).f0.f1), .int .u64 ((rd_T27 t456 x7_1).f1), .int .i64 ((rd_T27 t456 x7_1).f2)] (fun k_ => some k_ ≠ (.slice (some ad459) t456.length co14 : Value).ownBlock) (fun _ => False) rfl rfl ?aP (fun _ hk => hk.elim) ?aF ?aO ?aB ?aS ?aL ?_; (case aP => exact k27_mkM _ _ _ (⟨(⟨(rd_T27 t456 x7_1).f0.f0, (rd_T27 t456 x7_1).f0.f1⟩ : S25), (rd_T27 t456 x7_1).f1, (rd_T27 t456 x7_1).f2⟩ : S27)); (case aB => exact zb_); (case aF => exact (fun k_ hk => Kd.fresh' (Kd.R_lt (zr_ HO_6)) k_ hk)); (case aO => exact (zr_ HO_5)); (case aS => exact (below_size zb_)); (case aL => have := LMc13.out; omega); intro v463 w16 ho hb hg hat; rw [← Ny462.out] at ho; have n0_ := Aside0.mk (Kd.R_after (ok := (fun _ => True)) (by (with_reducible repeat (first | apply Kd.R_alloc | apply Kd.R_drewN | apply Kd.R_drew)); exact Kd.R_mono HO_6.out (fun _ hk => ⟨trivial, hk⟩)) hg hat); have n1_ := Aside0.mk (hb); have n2_ := Aside0.mk (ho); clear HO_6; clear HB; clear HO_5; have HO_6 := n0_; have HB := n1_; have HO464 := n2_; clear n0_ n1_ n2_; clear ho hb hg hat))
        go_roundg k1
        case measure => have := HK1.out; omega
        case rel => exact ⟨(y462), (wrap64 (x7_1 + 1)), (by first | rfl | (simp; done) | (simp [*]; done)), H', ⟨by have := HK1.out; omega⟩, ⟨by (with_reducible repeat (first | apply Kd.R_alloc | apply Kd.R_drewN | apply Kd.R_drew)); exact HO464.out⟩, ⟨by (with_reducible repeat (first | apply Kd.R_alloc | apply Kd.R_drewN | apply Kd.R_drew)); exact Kd.R_mono HO_6.out (fun _ hk => hk.2)⟩, ⟨by repeat (first | (with_reducible first | exact HB.out | apply below_alloc | apply pw_below_drewN | apply below_drew1) | exact HB.out)⟩⟩
       ·
        rw [if_neg c13] at H
        exact absurd H (by simp)
     ·
      rw [if_neg c8] at H
      exact absurd H (by simp)
    ·
     rw [if_neg c7] at H
     have c7b0 : decide (x7_1 < (t456.length : Int)) = false := decide_eq_false c7
     clear c7
     obtain rfl := Option.some.inj H
     obtain ⟨Ao17, co17, eo17⟩ := Kd.R_slice HO_6.out
     subst eo17
     go_wp2
     go_ret
     exact ⟨_, by first | rfl | (simp [errW_none, errW_some] <;> rfl) | (simp [*, errW_none, errW_some] <;> rfl), by (with_reducible repeat (first | apply Kd.R_alloc | apply Kd.R_drewN | apply Kd.R_drew)); exact Kd.R_mono HO_5.out (fun _ hk => trivial), by repeat (first | (with_reducible first | exact HB.out | apply below_alloc | apply pw_below_drewN | apply below_drew1) | exact HB.out)⟩
 ·
  rw [if_neg c3] at H
  exact absurd H (by simp)
end Go.Proofs.Ytioooiflpabngaa.PAll
end
section
namespace Go.Proofs.Ytioooiflpabngaa.PAll
open Go.RowKit Go.Proofs.YtioooiflpabngaaW.PrintWords
set_option linter.unusedVariables false
set_option linter.unusedSimpArgs false
theorem memL_iff {x : S27} {l : List S27} : memL x l = true ↔ x ∈ l := by
  unfold memL
  rw [List.any_eq_true]
  constructor
  · rintro ⟨y, hy, he⟩
    rw [← eqL_iff.1 he]
    exact hy
  · intro h
    exact ⟨x, h, eqL_iff.2 rfl⟩
theorem refIn_loop (l : List S27) (b : S27) (hl : l.length < 9223372036854775807) : ∀ (d i : Nat), d = l.length - i → i ≤ l.length → Ev (fun k => folkmootref05_In.l0 k l (i : Int) b.f0.f0 b.f0.f1 b.f1 b.f2) (memL b (l.drop i)) := by
  intro d
  induction d with
  | zero =>
    intro i hd hi
    have : i = l.length := by omega
    subst this
    refine Ev.step (b := fun _ => some false) (fun k => ?_) (Ev.const fun _ => by simp [memL])
    rw [folkmootref05_In.l0, if_neg (by omega)]
  | succ d ih =>
    intro i hd hi
    have hlt : i < l.length := by omega
    rw [List.drop_eq_getElem_cons hlt, show memL b (l[i] :: l.drop (i + 1)) = (eqL l[i] b || memL b (l.drop (i + 1))) from rfl]
    refine Ev.step (b := fun k => if eqL l[i] b = true then some true else folkmootref05_In.l0 k l ((i + 1 : Nat) : Int) b.f0.f0 b.f0.f1 b.f1 b.f2) (fun k => ?_) ?_
    · rw [folkmootref05_In.l0, if_pos (by omega), if_pos (by omega), rdL_nat hlt, eqL_spell, wrap_nat (by omega)]
    · by_cases h : eqL l[i] b = true
      · simp only [h, if_true]; exact Ev.const fun _ => rfl
      · rw [Bool.not_eq_true] at h
        simp only [h, Bool.false_or, Bool.false_eq_true, if_false]
        exact ih (i + 1) (by omega) (by omega)
theorem refIn_ev (l : List S27) (b : S27) (hl : l.length < 9223372036854775807) : Ev (fun k => folkmootref05_In.f k l b.f0.f0 b.f0.f1 b.f1 b.f2) (memL b l) := by
  have := refIn_loop l b hl l.length 0 (by omega) (by omega)
  simpa [folkmootref05_In.f] using this
def aheadL (x : S27) : List S27 → List S27
  | [] => [x]
  | a :: l => if cmpL x a < 0 then x :: a :: l else a :: aheadL x l
def putRL (l : List S27) (x : S27) : List S27 := if memL x l = true then l else aheadL x l
def mergeRL (l more : List S27) : List S27 := more.foldl putRL l
theorem aheadL_length (x : S27) (l : List S27) : (aheadL x l).length = l.length + 1 := by
  induction l with
  | nil => rfl
  | cons a l ih => unfold aheadL; split <;> simp [ih]
theorem putRL_length (l : List S27) (x : S27) : (putRL l x).length ≤ l.length + 1 := by
  unfold putRL; split
  · omega
  · rw [aheadL_length]; omega
theorem refSort_inner (more l : List S27) (j : Nat) (hj : j < more.length) (hl : l.length + 1 < 4398046511104) (r : List S27)
    (hr : Ev (fun k => folkmootref05_Sort.l0 k more (aheadL more[j] l) ((j + 1 : Nat) : Int)) r) (hm : more.length < 9223372036854775807) :
    ∀ (d i : Nat) (out : List S27) (done : Bool), d = l.length - i → i ≤ l.length → (done = false → out.length = i) → (done = true → out.length = i + 1) →
      (out ++ if done = true then l.drop i else aheadL more[j] (l.drop i)) = aheadL more[j] l →
      Ev (fun k => folkmootref05_Sort.l1 k more l (j : Int) out done (i : Int)) r := by
  intro d
  induction d with
  | zero =>
    intro i out done hd hi ho1 ho2 hout
    have hil : i = l.length := by omega
    subst hil
    simp only [List.drop_length] at hout
    cases done with
    | true =>
      simp only [if_true, List.append_nil] at hout
      subst hout
      refine Ev.step (b := fun k => folkmootref05_Sort.l0 k more (aheadL more[j] l) ((j + 1 : Nat) : Int)) (fun k => ?_) hr
      rw [folkmootref05_Sort.l1, if_neg (by omega), if_pos rfl, wrap_nat (by omega)]
    | false =>
      simp only [Bool.false_eq_true, if_false, aheadL] at hout
      refine Ev.step (b := fun k => folkmootref05_Sort.l0 k more (aheadL more[j] l) ((j + 1 : Nat) : Int)) (fun k => ?_) hr
      have hol := ho1 rfl
      rw [folkmootref05_Sort.l1, if_neg (by omega), if_neg (by simp), if_pos (by omega), if_pos (by omega), if_pos (by omega), rdL_nat hj, wrap_nat (by omega), ← hout]
  | succ d ih =>
    intro i out done hd hi ho1 ho2 hout
    have hlt : i < l.length := by omega
    cases done with
    | true =>
      have hol := ho2 rfl
      simp only [if_true] at hout
      refine Ev.step (b := fun k => folkmootref05_Sort.l1 k more l (j : Int) (out ++ [l[i]]) true ((i + 1 : Nat) : Int)) (fun k => ?_) (ih (i + 1) (out ++ [l[i]]) true (by omega) (by omega) (by simp) (by intro _; simp; omega) ?_)
      · rw [folkmootref05_Sort.l1, if_pos (by omega), if_pos rfl, if_pos (by omega), if_pos (by omega), rdL_nat hlt, wrap_nat (by omega)]
      · simp only [if_true]
        rw [← hout, List.append_assoc, List.drop_eq_getElem_cons hlt]
        rfl
    | false =>
      have hol := ho1 rfl
      simp only [Bool.false_eq_true, if_false] at hout
      rw [List.drop_eq_getElem_cons hlt, aheadL] at hout
      refine Ev.step (b := fun k => (folkmootref05_Less.f k more[j].f0.f0 more[j].f0.f1 more[j].f1 more[j].f2 l[i].f0.f0 l[i].f0.f1 l[i].f1 l[i].f2).bind fun t => if t = true then folkmootref05_Sort.l1 k more l (j : Int) ((out ++ [more[j]]) ++ [l[i]]) true ((i + 1 : Nat) : Int) else folkmootref05_Sort.l1 k more l (j : Int) (out ++ [l[i]]) false ((i + 1 : Nat) : Int)) (fun k => ?_) (Ev.bind (refLess_ev _ _) ?_)
      · rw [folkmootref05_Sort.l1, if_pos (by omega), if_neg (by simp), if_pos (by omega), if_pos (by omega), if_pos (by omega), rdL_nat hlt, rdL_nat hj, wrap_nat (by omega)]
        congr 1
        funext t
        cases t with
        | true =>
          simp only [if_true]
          rw [if_pos (by omega), Option.bind_some, if_pos (by simp; omega)]
        | false =>
          simp only [Bool.false_eq_true, if_false]
          rw [if_pos (by omega)]
      · by_cases hc : cmpL more[j] l[i] < 0
        · rw [if_pos hc] at hout
          simp only [hc, decide_true, if_true]
          refine ih (i + 1) ((out ++ [more[j]]) ++ [l[i]]) true (by omega) (by omega) (by simp) (by intro _; simp; omega) ?_
          simp only [if_true]
          rw [← hout]
          simp
        · rw [if_neg hc] at hout
          simp only [hc, decide_false, Bool.false_eq_true, if_false]
          refine ih (i + 1) (out ++ [l[i]]) false (by omega) (by omega) (by intro _; simp; omega) (by simp) ?_
          simp only [Bool.false_eq_true, if_false]
          rw [← hout]
          simp
theorem refSort_loop (more : List S27) (hm : more.length < 9223372036854775807) : ∀ (d j : Nat) (l : List S27), d = more.length - j → j ≤ more.length → l.length + d < 4398046511104 → Ev (fun k => folkmootref05_Sort.l0 k more l (j : Int)) (mergeRL l (more.drop j)) := by
  intro d
  induction d with
  | zero =>
    intro j l hd hj hl
    have hjm : j = more.length := by omega
    subst hjm
    refine Ev.step (b := fun _ => some l) (fun k => ?_) (Ev.const fun _ => by simp [mergeRL])
    rw [folkmootref05_Sort.l0, if_neg (by omega)]
  | succ d ih =>
    intro j l hd hj hl
    have hlt : j < more.length := by omega
    rw [List.drop_eq_getElem_cons hlt]
    show Ev _ (mergeRL (putRL l more[j]) (more.drop (j + 1)))
    have hpl := putRL_length l more[j]
    have hn := ih (j + 1) (putRL l more[j]) (by omega) (by omega) (by omega)
    refine Ev.step (b := fun k => (folkmootref05_In.f k l more[j].f0.f0 more[j].f0.f1 more[j].f1 more[j].f2).bind fun b => if b = true then folkmootref05_Sort.l0 k more l ((j + 1 : Nat) : Int) else folkmootref05_Sort.l1 k more l (j : Int) [] false 0) (fun k => ?_) (Ev.bind (refIn_ev l more[j] (by omega)) ?_)
    · rw [folkmootref05_Sort.l0, if_pos (by omega), if_pos (by omega), rdL_nat hlt, wrap_nat (by omega)]
    · by_cases hf : memL more[j] l = true
      · simp only [hf, if_true]
        rw [putRL, if_pos hf] at hn ⊢
        exact hn
      · simp only [hf]
        rw [putRL, if_neg hf] at hn ⊢
        exact refSort_inner more l j hlt (by omega) _ hn hm l.length 0 [] false (by omega) (by omega) (by simp) (by simp) (by simp)
theorem mem_aheadL {x y : S27} {l : List S27} : y ∈ aheadL x l ↔ y = x ∨ y ∈ l := by
  induction l with
  | nil => simp [aheadL]
  | cons a l ih =>
    unfold aheadL
    split
    · simp
    · simp only [List.mem_cons, ih]
      constructor
      · rintro (h | h | h)
        · exact .inr (.inl h)
        · exact .inl h
        · exact .inr (.inr h)
      · rintro (h | h | h)
        · exact .inr (.inl h)
        · exact .inl h
        · exact .inr (.inr h)
theorem aheadL_rise {x : S27} {l : List S27} (h : RiseL l) (hx : x ∉ l) : RiseL (aheadL x l) := by
  induction l with
  | nil => exact List.pairwise_singleton _ _
  | cons a l ih =>
    obtain ⟨h1, h2⟩ := List.pairwise_cons.1 h
    rw [List.mem_cons, not_or] at hx
    unfold aheadL
    split
    · rename_i hc
      rw [cmpL_neg] at hc
      refine List.pairwise_cons.2 ⟨fun y hy => ?_, h⟩
      rcases List.mem_cons.1 hy with rfl | hy
      · exact hc
      · exact ltL_trans hc (h1 y hy)
    · rename_i hc
      rw [cmpL_neg] at hc
      refine List.pairwise_cons.2 ⟨fun y hy => ?_, ih h2 hx.2⟩
      rcases mem_aheadL.1 hy with rfl | hy
      · rcases ltL_total a y with h | h | h
        · exact h
        · exact absurd h.symm hx.1
        · exact absurd h hc
      · exact h1 y hy
theorem putRL_rise {x : S27} {l : List S27} (h : RiseL l) : RiseL (putRL l x) := by
  unfold putRL
  split
  · exact h
  · rename_i hc
    exact aheadL_rise h fun hm => hc (memL_iff.2 hm)
theorem mem_putRL {x y : S27} {l : List S27} : y ∈ putRL l x ↔ y = x ∨ y ∈ l := by
  unfold putRL
  split
  · rename_i hc
    rw [memL_iff] at hc
    constructor
    · exact .inr
    · rintro (rfl | h)
      · exact hc
      · exact h
  · exact mem_aheadL
theorem mergeRL_rise : ∀ {more l : List S27}, RiseL l → RiseL (mergeRL l more)
  | [], l, h => h
  | x :: more, l, h => mergeRL_rise (more := more) (putRL_rise h)
theorem mem_mergeRL {y : S27} : ∀ {more l : List S27}, y ∈ mergeRL l more ↔ y ∈ l ∨ y ∈ more
  | [], l => by simp [mergeRL]
  | x :: more, l => by
    show y ∈ mergeRL (putRL l x) more ↔ _
    rw [mem_mergeRL (more := more), mem_putRL, List.mem_cons]
    constructor
    · rintro ((h | h) | h)
      · exact .inr (.inl h)
      · exact .inl h
      · exact .inr (.inr h)
    · rintro (h | h | h)
      · exact .inl (.inr h)
      · exact .inl (.inl h)
      · exact .inr h
theorem mergeRL_sort (l : List S27) : mergeRL [] l = sortL l :=
  riseL_ext (mergeRL_rise List.Pairwise.nil) (sortL_rise l) fun x => by rw [mem_mergeRL, mem_sortL]; simp
theorem refSort_ev (l : List S27) (h : l.length < 4398046511104) : Ev (fun k => folkmootref05_Sort.f k l) (sortL l) := by
  have := refSort_loop l (by omega) l.length 0 [] (by omega) (by omega) (by simp; omega)
  rw [List.drop_zero, mergeRL_sort] at this
  simpa [folkmootref05_Sort.f] using this
theorem refBehind_loop (order l : List S27) (ho : order.length + l.length < 4398046511104) : ∀ (d i : Nat) (out : List S27), d = l.length - i → i ≤ l.length → out.length + d < 4398046511104 → Ev (fun k => folkmootref05_Behind.l0 k order out l (i : Int)) (out ++ (l.drop i).filter fun x => !memL x order) := by
  intro d
  induction d with
  | zero =>
    intro i out hd hi hl
    have : i = l.length := by omega
    subst this
    refine Ev.step (b := fun _ => some out) (fun k => ?_) (Ev.const fun _ => by simp)
    rw [folkmootref05_Behind.l0, if_neg (by omega)]
  | succ d ih =>
    intro i out hd hi hl
    have hlt : i < l.length := by omega
    rw [List.drop_eq_getElem_cons hlt]
    refine Ev.step (b := fun k => (folkmootref05_In.f k order l[i].f0.f0 l[i].f0.f1 l[i].f1 l[i].f2).bind fun t => if t = true then folkmootref05_Behind.l0 k order out l ((i + 1 : Nat) : Int) else folkmootref05_Behind.l0 k order (out ++ [l[i]]) l ((i + 1 : Nat) : Int)) (fun k => ?_) (Ev.bind (refIn_ev order l[i] (by omega)) ?_)
    · rw [folkmootref05_Behind.l0, if_pos (by omega), if_pos (by omega), rdL_nat hlt, wrap_nat (by omega), if_pos (show out.length < 4398046511104 by omega)]
    · cases hm : memL l[i] order with
      | true =>
        simp only [if_true]
        rw [List.filter_cons_of_neg (by simp [hm])]
        exact ih (i + 1) out (by omega) (by omega) (by omega)
      | false =>
        simp only [Bool.false_eq_true, if_false]
        rw [List.filter_cons_of_pos (by simp [hm]), show out ++ l[i] :: (l.drop (i + 1)).filter (fun x => !memL x order) = (out ++ [l[i]]) ++ (l.drop (i + 1)).filter (fun x => !memL x order) by simp]
        exact ih (i + 1) (out ++ [l[i]]) (by omega) (by omega) (by simp; omega)
theorem refBehind_ev (order l : List S27) (h : order.length + l.length < 4398046511104) : Ev (fun k => folkmootref05_Behind.f k order l) (behindL order l) := by
  unfold folkmootref05_Behind.f
  have hc : ([] : List S27).length + order.length < 4398046511104 := by simp; omega
  have h2 := sortL_length l
  simp only [hc, if_true, List.nil_append]
  refine Ev.bind (refSort_ev l (by omega)) ?_
  have := refBehind_loop order (sortL l) (by omega) (sortL l).length 0 order (by omega) (by omega) (by omega)
  simpa [behindL] using this
end Go.Proofs.Ytioooiflpabngaa.PAll
end
