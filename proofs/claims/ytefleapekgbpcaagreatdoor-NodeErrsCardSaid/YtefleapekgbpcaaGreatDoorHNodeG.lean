/- folkmootlaw18.NodeErrs: the walk where a configuration is none. -/
import Derived.Test.YtefleapekgbpcaaGreatDoorHNodeF
import Derived.Deep.DeepCutAuto
import Derived.Deep.CutBlock
namespace Go.Proofs.YtefleapekgbpcaaGreatDoor.Nw
open Go.RowKit Go.Aex
set_option linter.unusedVariables false
set_option linter.unusedSimpArgs false
set_option maxHeartbeats 16000000 in
set_option maxRecDepth 100000 in
theorem nodeErrs_no (a b c d e f s : Int) (A : Option Addr) (n cap : Nat) (w : World) (hT : TabAt 2 Lib.deBruijn32tab w) (hs : 2 < w.heap.size) (hok : okN a b c d e f s = false) :
    Calls Tryz.prog 4 #[.agg #[.int .i64 a, .int .i64 b, .int .i64 c, .int .i64 d, .int .i64 e, .int .i64 f], .int .i64 s, .slice A n cap] w (fun e' w' => e' = .returned (.bool true) ∧ Below w.heap.size w w') := by
  have hsz : (w.alloc (.cells #[.int .i64 a, .int .i64 b, .int .i64 c, .int .i64 d, .int .i64 e, .int .i64 f] 23 (0, 0))).heap.size = w.heap.size + 1 := by show (w.heap.push _).size = _; simp
  have HB0 := Below.alloc (Below.refl _ w) (Nat.le_refl _) (.cells #[.int .i64 a, .int .i64 b, .int .i64 c, .int .i64 d, .int .i64 e, .int .i64 f] 23 (0, 0))
  have HAW := Aside0.mk (awake18 (tab_below hT hs HB0) (by rw [hsz]; omega))
  have HT := Aside0.mk hT
  have HS := Aside0.mk hs
  clear hT hs HB0
  by_cases hn : 1000 < n
  · have dn : decide (1000 < (n : Int)) = true := decide_eq_true (by omega)
    go_enter Tryz.func4, Tryz.ntmps4
    go_wp2_with fail
    go_at_call 20
    refine HAW.out.mono ?_
    rintro e' w1 ⟨rfl, hb⟩
    obtain ⟨hb1, hb2, hb3⟩ := below_box hb
    have HB := Aside0.mk hb1
    have HAW2 := Aside0.mk (awake18 (tab_below HT.out HS.out hb1) (by have := HS.out; omega))
    clear hb hb1 hb2 HAW
    go_wp2_with (go_at_call 20; refine HAW2.out.mono ?_; rintro e' w2 ⟨rfl, hb⟩; have HB2 := Aside0.mk (below_step HB.out hb); clear hb)
    go_ret
    exact ⟨rfl, HB2.out⟩
  · have dn : decide (1000 < (n : Int)) = false := decide_eq_false (by omega)
    have HN := fun (w1 : World) (h : Below w.heap.size w w1) (hs : 2 < w1.heap.size) => node_New a b c d e f s w1 (tab_below HT.out HS.out h) hs
    go_enter Tryz.func4, Tryz.ntmps4
    go_wp2_with fail
    go_at_call 20
    refine HAW.out.mono ?_
    rintro e' w1 ⟨rfl, hb⟩
    obtain ⟨hb1, hb2, hb3⟩ := below_box hb
    have z0 : w1.cell? ⟨w.heap.size, 0, none⟩ = some (.int .i64 a) := by simp [World.cell?, hb2]
    have z1 : w1.cell? ⟨w.heap.size, 1, none⟩ = some (.int .i64 b) := by simp [World.cell?, hb2]
    have z2 : w1.cell? ⟨w.heap.size, 2, none⟩ = some (.int .i64 c) := by simp [World.cell?, hb2]
    have z3 : w1.cell? ⟨w.heap.size, 3, none⟩ = some (.int .i64 d) := by simp [World.cell?, hb2]
    have z4 : w1.cell? ⟨w.heap.size, 4, none⟩ = some (.int .i64 e) := by simp [World.cell?, hb2]
    have z5 : w1.cell? ⟨w.heap.size, 5, none⟩ = some (.int .i64 f) := by simp [World.cell?, hb2]
    have HN1 := Aside0.mk (HN w1 hb1 (by have := HS.out; omega))
    have HB1 := Aside0.mk hb1
    clear hb hb1 HAW HN HT HS
    go_wp2_with fail
    go_at_call 21
    refine HN1.out.mono ?_
    rintro e' w2 ⟨hb, hyes, hno⟩
    have hs2 := hb.size
    have hbx := (hb.block _ hb3).trans hb2
    have z0 : w2.cell? ⟨w.heap.size, 0, none⟩ = some (.int .i64 a) := by simp [World.cell?, hbx]
    have z1 : w2.cell? ⟨w.heap.size, 1, none⟩ = some (.int .i64 b) := by simp [World.cell?, hbx]
    have z2 : w2.cell? ⟨w.heap.size, 2, none⟩ = some (.int .i64 c) := by simp [World.cell?, hbx]
    have z3 : w2.cell? ⟨w.heap.size, 3, none⟩ = some (.int .i64 d) := by simp [World.cell?, hbx]
    have z4 : w2.cell? ⟨w.heap.size, 4, none⟩ = some (.int .i64 e) := by simp [World.cell?, hbx]
    have z5 : w2.cell? ⟨w.heap.size, 5, none⟩ = some (.int .i64 f) := by simp [World.cell?, hbx]
    have HB := Aside0.mk (below_step HB1.out hb)
    clear hb hb2 hbx HN1 HB1
    obtain rfl := hno hok
    clear hyes hno
    go_upto_region 4 with fail
    go_cut [9] (fun s9 wx => s9 = .bool false ∧ wx = w2)
    case first =>
      cases q1 : decide (1 ≤ a) with
      | false => go_wp2_with fail; go_meet; exact ⟨rfl, rfl⟩
      | true =>
        cases q2 : decide (a ≤ 16) with
        | false => go_wp2_with fail; go_meet; exact ⟨rfl, rfl⟩
        | true =>
          cases q3 : decide (1 ≤ b) with
          | false => go_wp2_with fail; go_meet; exact ⟨rfl, rfl⟩
          | true =>
            cases q4 : decide (b < c) with
            | false => go_wp2_with fail; go_meet; exact ⟨rfl, rfl⟩
            | true =>
              cases q5 : decide (c ≤ 1000) with
              | false => go_wp2_with fail; go_meet; exact ⟨rfl, rfl⟩
              | true =>
                cases q6 : decide (1 ≤ d) with
                | false => go_wp2_with fail; go_meet; exact ⟨rfl, rfl⟩
                | true =>
                  cases q7 : decide (d ≤ 32) with
                  | false => go_wp2_with fail; go_meet; exact ⟨rfl, rfl⟩
                  | true =>
                    cases q8 : decide (1 ≤ e) with
                    | false => go_wp2_with fail; go_meet; exact ⟨rfl, rfl⟩
                    | true =>
                      cases q9 : decide (e ≤ 256) with
                      | false => go_wp2_with fail; go_meet; exact ⟨rfl, rfl⟩
                      | true =>
                        cases q10 : decide (1 ≤ f) with
                        | false => go_wp2_with fail; go_meet; exact ⟨rfl, rfl⟩
                        | true =>
                          cases q11 : decide (f ≤ 256) with
                          | false => go_wp2_with fail; go_meet; exact ⟨rfl, rfl⟩
                          | true =>
                            cases q12 : decide (0 ≤ s) with
                            | false => go_wp2_with fail; go_meet; exact ⟨rfl, rfl⟩
                            | true =>
                              cases q13 : decide (s < a) with
                              | false => go_wp2_with fail; go_meet; exact ⟨rfl, rfl⟩
                              | true =>
                                exact absurd hok (by simp [okN, formC, *])
    case rest =>
      obtain ⟨rfl, rfl⟩ := hcut
      clear z0 z1 z2 z3 z4 z5
      go_wp2_with (first | (go_at_call 22; refine (zBcast (.slice A n cap) _).mono ?_; rintro e' wz ⟨rfl, hb⟩; have HB_ := Aside0.mk (below_step HB.out hb); clear HB hb; have HB := HB_; clear HB_) | (go_at_call 23; refine (zTick _).mono ?_; rintro e' wz ⟨rfl, hb⟩; have HB_ := Aside0.mk (below_step HB.out hb); clear HB hb; have HB := HB_; clear HB_) | (go_at_call 24; refine (zIn (.slice A n cap) _).mono ?_; rintro e' wz ⟨rfl, hb⟩; have HB_ := Aside0.mk (below_step HB.out hb); clear HB hb; have HB := HB_; clear HB_) | (go_at_call 25; refine (zOut _).mono ?_; rintro e' wz ⟨rfl, hb⟩; have HB_ := Aside0.mk (below_step HB.out hb); clear HB hb; have HB := HB_; clear HB_) | (go_at_call 26; refine (zSent _).mono ?_; rintro e' wz ⟨rfl, hb⟩; have HB_ := Aside0.mk (below_step HB.out hb); clear HB hb; have HB := HB_; clear HB_) | (go_at_call 27; refine (zGot _).mono ?_; rintro e' wz ⟨rfl, hb⟩; have HB_ := Aside0.mk (below_step HB.out hb); clear HB hb; have HB := HB_; clear HB_) | (go_at_call 28; refine (zTrace _).mono ?_; rintro e' wz ⟨rfl, hb⟩; have HB_ := Aside0.mk (below_step HB.out hb); clear HB hb; have HB := HB_; clear HB_) | (go_at_call 29; refine (zView _).mono ?_; rintro e' wz ⟨rfl, hb⟩; have HB_ := Aside0.mk (below_step HB.out hb); clear HB hb; have HB := HB_; clear HB_) | (go_at_call 30; refine (zOpen _).mono ?_; rintro e' wz ⟨rfl, hb⟩; have HB_ := Aside0.mk (below_step HB.out hb); clear HB hb; have HB := HB_; clear HB_) | (go_at_call 31; refine (zEst _).mono ?_; rintro e' wz ⟨rfl, hb⟩; have HB_ := Aside0.mk (below_step HB.out hb); clear HB hb; have HB := HB_; clear HB_) | (go_at_call 33; refine (zSummary _).mono ?_; rintro e' wz ⟨rfl, hb⟩; have HB_ := Aside0.mk (below_step HB.out hb); clear HB hb; have HB := HB_; clear HB_) | (go_at_call 32; refine (zAlike _).mono ?_; rintro e' wz ⟨rfl, hb⟩; have HB_ := Aside0.mk (below_step HB.out hb); clear HB hb; have HB := HB_; clear HB_))
      go_ret
      exact ⟨rfl, HB.out⟩
theorem nodeErrs (a b c d e f s : Int) (A : Option Addr) (n cap : Nat) (w : World) (hT : TabAt 2 Lib.deBruijn32tab w) (hs : 2 < w.heap.size) :
    Calls Tryz.prog 4 #[.agg #[.int .i64 a, .int .i64 b, .int .i64 c, .int .i64 d, .int .i64 e, .int .i64 f], .int .i64 s, .slice A n cap] w (fun e' w' => e' = .returned (.bool true) ∧ Below w.heap.size w w') := by
  cases hok : okN a b c d e f s with
  | true => exact nodeErrs_yes a b c d e f s A n cap w hT hs hok
  | false => exact nodeErrs_no a b c d e f s A n cap w hT hs hok
end Go.Proofs.YtefleapekgbpcaaGreatDoor.Nw
