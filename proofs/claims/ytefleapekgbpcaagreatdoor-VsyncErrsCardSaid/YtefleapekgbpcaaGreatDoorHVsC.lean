/- folkmootlaw14.VsyncErrs: the walk. -/
import Derived.Test.YtefleapekgbpcaaGreatDoorHVsB
import Derived.Test.YtefleapekgbpcaaGreatDoorHAwake14
import Derived.Deep.DeepCutAuto
import Derived.Deep.CutBlock
namespace Go.Proofs.YtefleapekgbpcaaGreatDoor.Nw
open Go.RowKit Go.Aex
set_option linter.unusedVariables false
set_option linter.unusedSimpArgs false
theorem vtab_below {w w' : World} (hT : TabAt 2 Lib.deBruijn32tab w) (hs : 2 < w.heap.size) (hb : Below w.heap.size w w') : TabAt 2 Lib.deBruijn32tab w' := fun j hj => by rw [hb.cell (by exact hs)]; exact hT j hj
/-- A row of zeros. -/
theorem run_big (w : World) : ∃ o : Obj, (Instr.makeSlice 24 (.int .i64 524289) (.int .i64 524289)).run Tryz.prog w = .ok (.slice (some ⟨w.heap.size, 0, none⟩) 524289 524289) (w.alloc o) := by
  have hu := (Aexd.tab.ty 24 Aexd.ty24 (by kernel_rfl)).under
  have he := Aexd.tab.ty 5 Aexd.ty5 (by kernel_rfl)
  obtain ⟨i, z, hi, hsz, hby, hz, hiz⟩ := he.info
  have h1 : i.size = 1 := hsz.trans rfl
  have h2 : i.bytes = 1 := hby.trans rfl
  exact ⟨_, run_makeSlice w 24 5 i z hu hi hiz .i64 .i64 524289 524289 (by omega) (by omega) (by rw [h1]; omega) (by rw [h2]; omega) (by omega)⟩
noncomputable def bigO (w : World) : Obj := Classical.choose (run_big w)
theorem bigO_run (w : World) : (Instr.makeSlice 24 (.int .i64 524289) (.int .i64 524289)).run Tryz.prog w = .ok (.slice (some ⟨w.heap.size, 0, none⟩) 524289 524289) (w.alloc (bigO w)) := Classical.choose_spec (run_big w)
set_option maxHeartbeats 16000000 in
set_option maxRecDepth 100000 in
theorem vsyncErrs (a b c d e f s : Int) (A : Option Addr) (n cap : Nat) (w : World) (hT : TabAt 2 Lib.deBruijn32tab w) (hs : 2 < w.heap.size) :
    Calls Tryz.prog 3 #[.agg #[.int .i64 a, .int .i64 b, .int .i64 c, .int .i64 d, .int .i64 e, .int .i64 f], .int .i64 s, .slice A n cap] w (fun e' w' => e' = .returned (.bool true) ∧ Below w.heap.size w w') := by
  have hsz : (w.alloc (.cells #[.int .i64 a, .int .i64 b, .int .i64 c, .int .i64 d, .int .i64 e, .int .i64 f] 23 (0, 0))).heap.size = w.heap.size + 1 := by show (w.heap.push _).size = _; simp
  have HB0 := Below.alloc (Below.refl _ w) (Nat.le_refl _) (.cells #[.int .i64 a, .int .i64 b, .int .i64 c, .int .i64 d, .int .i64 e, .int .i64 f] 23 (0, 0))
  have HAW := Aside0.mk (Aexd.awake14_calls (vtab_below hT hs HB0) (by rw [hsz]; omega))
  have HT := Aside0.mk hT
  have HS := Aside0.mk hs
  clear hT hs HB0
  by_cases hn : 1000 < n
  · have dn : decide (1000 < (n : Int)) = true := decide_eq_true (by omega)
    go_enter Tryz.func3, Tryz.ntmps3
    go_wp2_with fail
    go_at_call 10
    refine HAW.out.mono ?_
    rintro e' w1 ⟨rfl, hb⟩
    obtain ⟨hb1, hb2, hb3⟩ := below_box hb
    have HB := Aside0.mk hb1
    have HAW2 := Aside0.mk (Aexd.awake14_calls (vtab_below HT.out HS.out hb1) (by have := HS.out; omega))
    clear hb hb1 hb2 HAW
    go_wp2_with (go_at_call 10; refine HAW2.out.mono ?_; rintro e' w2 ⟨rfl, hb⟩; have HB2 := Aside0.mk (vbelow_step HB.out hb); clear hb)
    go_ret
    exact ⟨rfl, HB2.out⟩
  · have dn : decide (1000 < (n : Int)) = false := decide_eq_false (by omega)
    have HN := fun (w1 : World) (h : Below w.heap.size w w1) (hs : 2 < w1.heap.size) => vsync_NewG a b c d e f s w1 (vtab_below HT.out HS.out h) hs
    have hz1 : (0 : Nat) = 0 := rfl
    go_enter Tryz.func3, Tryz.ntmps3
    go_wp2_with fail
    go_at_call 10
    refine HAW.out.mono ?_
    rintro e' w1 ⟨rfl, hb⟩
    obtain ⟨hb1, hb2, hb3⟩ := below_box hb
    have HX := Aside0.mk hb2
    have HX3 := Aside0.mk hb3
    have HB := Aside0.mk hb1
    clear hb hb1 hb2 HAW hz1
    go_upto_region 7 with (first | (go_at_call 11; refine (vTick _).mono ?_; rintro e' wz ⟨rfl, hb⟩; have HX_ := Aside0.mk ((hb.block _ HX3.out).trans HX.out); have HX3_ := Aside0.mk (Nat.lt_of_lt_of_le HX3.out hb.size); have HB_ := Aside0.mk (vbelow_step HB.out hb); clear HB hb HX HX3; have HB := HB_; have HX := HX_; have HX3 := HX3_; clear HB_ HX_ HX3_) | (go_at_call 12; refine (vSend (.slice A n cap) _).mono ?_; rintro e' wz ⟨rfl, hb⟩; have HX_ := Aside0.mk ((hb.block _ HX3.out).trans HX.out); have HX3_ := Aside0.mk (Nat.lt_of_lt_of_le HX3.out hb.size); have HB_ := Aside0.mk (vbelow_step HB.out hb); clear HB hb HX HX3; have HB := HB_; have HX := HX_; have HX3 := HX3_; clear HB_ HX_ HX3_) | (go_at_call 13; refine (vIn (.slice A n cap) _).mono ?_; rintro e' wz ⟨rfl, hb⟩; have HX_ := Aside0.mk ((hb.block _ HX3.out).trans HX.out); have HX3_ := Aside0.mk (Nat.lt_of_lt_of_le HX3.out hb.size); have HB_ := Aside0.mk (vbelow_step HB.out hb); clear HB hb HX HX3; have HB := HB_; have HX := HX_; have HX3 := HX3_; clear HB_ HX_ HX3_) | (go_at_call 14; refine (vOut _).mono ?_; rintro e' wz ⟨rfl, hb⟩; have HX_ := Aside0.mk ((hb.block _ HX3.out).trans HX.out); have HX3_ := Aside0.mk (Nat.lt_of_lt_of_le HX3.out hb.size); have HB_ := Aside0.mk (vbelow_step HB.out hb); clear HB hb HX HX3; have HB := HB_; have HX := HX_; have HX3 := HX3_; clear HB_ HX_ HX3_) | (go_at_call 15; refine (vEvents _).mono ?_; rintro e' wz ⟨rfl, hb⟩; have HX_ := Aside0.mk ((hb.block _ HX3.out).trans HX.out); have HX3_ := Aside0.mk (Nat.lt_of_lt_of_le HX3.out hb.size); have HB_ := Aside0.mk (vbelow_step HB.out hb); clear HB hb HX HX3; have HB := HB_; have HX := HX_; have HX3 := HX3_; clear HB_ HX_ HX3_) | (go_at_call 16; refine (vView _).mono ?_; rintro e' wz ⟨rfl, hb⟩; have HX_ := Aside0.mk ((hb.block _ HX3.out).trans HX.out); have HX3_ := Aside0.mk (Nat.lt_of_lt_of_le HX3.out hb.size); have HB_ := Aside0.mk (vbelow_step HB.out hb); clear HB hb HX HX3; have HB := HB_; have HX := HX_; have HX3 := HX3_; clear HB_ HX_ HX3_) | (go_at_call 17; refine (vOpen _).mono ?_; rintro e' wz ⟨rfl, hb⟩; have HX_ := Aside0.mk ((hb.block _ HX3.out).trans HX.out); have HX3_ := Aside0.mk (Nat.lt_of_lt_of_le HX3.out hb.size); have HB_ := Aside0.mk (vbelow_step HB.out hb); clear HB hb HX HX3; have HB := HB_; have HX := HX_; have HX3 := HX3_; clear HB_ HX_ HX3_) | (go_at_call 18; refine (vEst _).mono ?_; rintro e' wz ⟨rfl, hb⟩; have HX_ := Aside0.mk ((hb.block _ HX3.out).trans HX.out); have HX3_ := Aside0.mk (Nat.lt_of_lt_of_le HX3.out hb.size); have HB_ := Aside0.mk (vbelow_step HB.out hb); clear HB hb HX HX3; have HB := HB_; have HX := HX_; have HX3 := HX3_; clear HB_ HX_ HX3_))
    have HN1 := Aside0.mk (HN wz HB.out (by have := HS.out; have := HX3.out; omega))
    have hbx := HX.out
    have z0 : wz.cell? ⟨w.heap.size, 0, none⟩ = some (.int .i64 a) := by simp [World.cell?, hbx]
    have z1 : wz.cell? ⟨w.heap.size, 1, none⟩ = some (.int .i64 b) := by simp [World.cell?, hbx]
    have z2 : wz.cell? ⟨w.heap.size, 2, none⟩ = some (.int .i64 c) := by simp [World.cell?, hbx]
    have z3 : wz.cell? ⟨w.heap.size, 3, none⟩ = some (.int .i64 d) := by simp [World.cell?, hbx]
    have z4 : wz.cell? ⟨w.heap.size, 4, none⟩ = some (.int .i64 e) := by simp [World.cell?, hbx]
    have z5 : wz.cell? ⟨w.heap.size, 5, none⟩ = some (.int .i64 f) := by simp [World.cell?, hbx]
    have HSZ := Aside0.mk HB.out.size
    clear hbx HX HN HT HS
    go_wp2_with fail
    go_at_call 19
    refine HN1.out.mono ?_
    rintro e' w2 ⟨hb, hno, hyes⟩
    have HB2 := Aside0.mk (vbelow_step HB.out hb)
    clear hb HN1 HB z0 z1 z2 z3 z4 z5
    cases hok : okN a b c d e f s with
    | false =>
      obtain rfl := hno hok
      clear hno hyes hok
      go_wp2_with fail
      go_ret
      exact ⟨rfl, HB2.out⟩
    | true =>
      obtain ⟨G, M, c1, t1, c2, t2, g1, g2, g3, rfl, g4, g5, g6, g7, g8, g9, g10, g11⟩ := hyes hok
      have HG := Aside0.mk (grp_of HB2.out (Nat.le_trans HSZ.out g1) (Nat.le_trans HSZ.out g2) g3 g4 g5 g6 g7 g8 g9 g10 g11)
      clear hno hyes hok g1 g2 g3 g4 g5 g6 g7 g8 g9 g10 g11 HB2 HSZ
      have HBR := Aside0.mk bigO_run
      go_wp2_with (first
        | (go_at_call 12; (with_reducible refine (gSend HG.out A n cap (by omega)).mono ?_); rintro e' w3 ⟨rfl, hg⟩; have HG3 := Aside0.mk hg; clear hg; have hmk := HBR.out w3)
        | (go_at_call 12; (with_reducible refine (gLong _ 524289 524289 (by omega)).mono ?_); rintro e' w4 ⟨rfl, rfl⟩; have HG4 := Aside0.mk (HG3.out.keep (Below.alloc (Below.refl _ _) (Nat.le_refl _) (bigO w3))); clear hmk)
        | (go_at_call 14; refine (gOut HG4.out).mono ?_; rintro e' w5 ⟨rfl, hg⟩; have HG5 := Aside0.mk hg; clear hg)
        | (go_at_call 15; refine (gEvents HG5.out).mono ?_; rintro e' w6 ⟨rfl, hg⟩; have HG6 := Aside0.mk hg; clear hg))
      go_ret
      exact ⟨rfl, HG6.out.below⟩
end Go.Proofs.YtefleapekgbpcaaGreatDoor.Nw
