/- folkmootlaw20.MootBounds: the walk. -/
import Derived.Test.YtefleapekgbpcaaGreatDoorRows
import Derived.WalkKit
import Derived.Below
import Derived.KernelRfl
import Derived.Deep.DeepCutAuto
import Derived.Deep.CutBlock
import Derived.Deep.RegionHeld3
import Derived.IntWalk
namespace Go.Proofs.YtefleapekgbpcaaGreatDoor.Nw
open Go.RowKit
set_option linter.unusedVariables false
set_option linter.unusedSimpArgs false
structure Aside0 (p : Prop) : Prop where mk :: (out : p)
theorem mbelow_step {w w1 w2 : World} (h : Below w.heap.size w w1) (k : Below w1.heap.size w1 w2) : Below w.heap.size w w2 := h.trans (k.mono h.size)
theorem mbelow_box {w w1 : World} {o : Obj} (hb : Below (w.alloc o).heap.size (w.alloc o) w1) : Below w.heap.size w w1 ∧ w1.heap[w.heap.size]? = some o ∧ w.heap.size < w1.heap.size := by
  have hs : (w.alloc o).heap.size = w.heap.size + 1 := by show (w.heap.push o).size = _; simp
  refine ⟨(Below.alloc (Below.refl _ _) (Nat.le_refl _) o).trans (hb.mono (by omega)), ?_, by have := hb.size; omega⟩
  rw [hb.block _ (by omega)]
  show (w.heap.push o)[w.heap.size]? = _
  simp
set_option maxHeartbeats 4000000 in
set_option maxRecDepth 100000 in
theorem settle_calls (a b c d e f : Int) (w : World) (h1 : -1073741824 ≤ c) (h2 : c ≤ 1073741824) (h3 : -1073741824 ≤ b) (h4 : b ≤ 1073741824) :
    Calls Tryz.prog 35 #[.agg #[.int .i64 a, .int .i64 b, .int .i64 c, .int .i64 d, .int .i64 e, .int .i64 f]] w (fun e' w' => e' = .returned (.int .i64 (c + b + 6)) ∧ Below w.heap.size w w') := by
  go_enter Tryz.func35, Tryz.ntmps35
  go_wp2_with fail
  go_ret
  exact ⟨rfl, Below.alloc (Below.refl _ _) (Nat.le_refl _) _⟩
set_option maxHeartbeats 4000000 in
set_option maxRecDepth 100000 in
theorem rest_calls (a b c d e f n : Int) (w : World) (h1 : -1048576 ≤ a) (h2 : a ≤ 1048576) (h3 : 0 ≤ n) (h4 : n ≤ 65535) :
    Calls Tryz.prog 36 #[.agg #[.int .i64 a, .int .i64 b, .int .i64 c, .int .i64 d, .int .i64 e, .int .i64 f], .int .i64 n] w (fun e' w' => e' = .returned (.int .i64 (20 + 4 * (n + a))) ∧ Below w.heap.size w w') := by
  go_enter Tryz.func36, Tryz.ntmps36
  go_wp2_with fail
  go_ret
  exact ⟨rfl, Below.alloc (Below.refl _ _) (Nat.le_refl _) _⟩
def badB (a b c : Int) : Bool := decide (1073741824 < c) || (decide (1073741824 < b) || (decide (1048576 < a) || (decide (c < -1073741824) || (decide (b < -1073741824) || decide (a < -1048576)))))
set_option maxHeartbeats 16000000 in
set_option maxRecDepth 100000 in
theorem mootBounds (a b c d e f n : Int) (w : World) (hn0 : 0 ≤ n) (hn1 : n ≤ 65535) (haw : ∀ W, Below w.heap.size w W → Calls Tryz.prog 34 #[] W (fun e' w' => e' = .returned (.bool true) ∧ Below W.heap.size W w')) :
    Calls Tryz.prog 5 #[.agg #[.int .i64 a, .int .i64 b, .int .i64 c, .int .i64 d, .int .i64 e, .int .i64 f], .int .u16 n] w (fun e' w' => e' = .returned (.bool true) ∧ Below w.heap.size w w') := by
  have hsz : (w.alloc (.cells #[.int .i64 a, .int .i64 b, .int .i64 c, .int .i64 d, .int .i64 e, .int .i64 f] 23 (0, 0))).heap.size = w.heap.size + 1 := by show (w.heap.push _).size = _; simp
  have HB0 := Below.alloc (Below.refl _ w) (Nat.le_refl _) (.cells #[.int .i64 a, .int .i64 b, .int .i64 c, .int .i64 d, .int .i64 e, .int .i64 f] 23 (0, 0))
  have HAW := Aside0.mk (haw _ HB0)
  have HAWW := Aside0.mk haw
  clear haw HB0
  go_enter Tryz.func5, Tryz.ntmps5
  go_upto_region 1 with fail
  go_cut [36] (fun s36 wx => s36 = .bool (badB a b c) ∧ Aside0 (Below w.heap.size w wx) ∧ Aside0 (wx.heap[w.heap.size]? = some (.cells #[.int .i64 a, .int .i64 b, .int .i64 c, .int .i64 d, .int .i64 e, .int .i64 f] 23 (0, 0))))
  case first =>
    cases q1 : decide (1073741824 < c) with
    | true => 
      go_wp2_with (go_at_call 34; refine HAW.out.mono ?_; rintro e' w1 ⟨rfl, hb⟩; obtain ⟨hb1, hbx, hb3⟩ := mbelow_box hb; have HB := Aside0.mk hb1; have HX := Aside0.mk hbx; have z0 : w1.cell? ⟨w.heap.size, 0, none⟩ = some (.int .i64 a) := (by simp [World.cell?, hbx]); have z1 : w1.cell? ⟨w.heap.size, 1, none⟩ = some (.int .i64 b) := (by simp [World.cell?, hbx]); have z2 : w1.cell? ⟨w.heap.size, 2, none⟩ = some (.int .i64 c) := (by simp [World.cell?, hbx]); have z3 : w1.cell? ⟨w.heap.size, 3, none⟩ = some (.int .i64 d) := (by simp [World.cell?, hbx]); have z4 : w1.cell? ⟨w.heap.size, 4, none⟩ = some (.int .i64 e) := (by simp [World.cell?, hbx]); have z5 : w1.cell? ⟨w.heap.size, 5, none⟩ = some (.int .i64 f) := (by simp [World.cell?, hbx]); clear hb hb1 hb3 hbx)
      go_meet
      exact ⟨by simp [badB, q1], HB, HX⟩
    | false =>
    cases q2 : decide (1073741824 < b) with
    | true => 
      go_wp2_with (go_at_call 34; refine HAW.out.mono ?_; rintro e' w1 ⟨rfl, hb⟩; obtain ⟨hb1, hbx, hb3⟩ := mbelow_box hb; have HB := Aside0.mk hb1; have HX := Aside0.mk hbx; have z0 : w1.cell? ⟨w.heap.size, 0, none⟩ = some (.int .i64 a) := (by simp [World.cell?, hbx]); have z1 : w1.cell? ⟨w.heap.size, 1, none⟩ = some (.int .i64 b) := (by simp [World.cell?, hbx]); have z2 : w1.cell? ⟨w.heap.size, 2, none⟩ = some (.int .i64 c) := (by simp [World.cell?, hbx]); have z3 : w1.cell? ⟨w.heap.size, 3, none⟩ = some (.int .i64 d) := (by simp [World.cell?, hbx]); have z4 : w1.cell? ⟨w.heap.size, 4, none⟩ = some (.int .i64 e) := (by simp [World.cell?, hbx]); have z5 : w1.cell? ⟨w.heap.size, 5, none⟩ = some (.int .i64 f) := (by simp [World.cell?, hbx]); clear hb hb1 hb3 hbx)
      go_meet
      exact ⟨by simp [badB, q1, q2], HB, HX⟩
    | false =>
    cases q3 : decide (1048576 < a) with
    | true => 
      go_wp2_with (go_at_call 34; refine HAW.out.mono ?_; rintro e' w1 ⟨rfl, hb⟩; obtain ⟨hb1, hbx, hb3⟩ := mbelow_box hb; have HB := Aside0.mk hb1; have HX := Aside0.mk hbx; have z0 : w1.cell? ⟨w.heap.size, 0, none⟩ = some (.int .i64 a) := (by simp [World.cell?, hbx]); have z1 : w1.cell? ⟨w.heap.size, 1, none⟩ = some (.int .i64 b) := (by simp [World.cell?, hbx]); have z2 : w1.cell? ⟨w.heap.size, 2, none⟩ = some (.int .i64 c) := (by simp [World.cell?, hbx]); have z3 : w1.cell? ⟨w.heap.size, 3, none⟩ = some (.int .i64 d) := (by simp [World.cell?, hbx]); have z4 : w1.cell? ⟨w.heap.size, 4, none⟩ = some (.int .i64 e) := (by simp [World.cell?, hbx]); have z5 : w1.cell? ⟨w.heap.size, 5, none⟩ = some (.int .i64 f) := (by simp [World.cell?, hbx]); clear hb hb1 hb3 hbx)
      go_meet
      exact ⟨by simp [badB, q1, q2, q3], HB, HX⟩
    | false =>
    cases q4 : decide (c < -1073741824) with
    | true => 
      go_wp2_with (go_at_call 34; refine HAW.out.mono ?_; rintro e' w1 ⟨rfl, hb⟩; obtain ⟨hb1, hbx, hb3⟩ := mbelow_box hb; have HB := Aside0.mk hb1; have HX := Aside0.mk hbx; have z0 : w1.cell? ⟨w.heap.size, 0, none⟩ = some (.int .i64 a) := (by simp [World.cell?, hbx]); have z1 : w1.cell? ⟨w.heap.size, 1, none⟩ = some (.int .i64 b) := (by simp [World.cell?, hbx]); have z2 : w1.cell? ⟨w.heap.size, 2, none⟩ = some (.int .i64 c) := (by simp [World.cell?, hbx]); have z3 : w1.cell? ⟨w.heap.size, 3, none⟩ = some (.int .i64 d) := (by simp [World.cell?, hbx]); have z4 : w1.cell? ⟨w.heap.size, 4, none⟩ = some (.int .i64 e) := (by simp [World.cell?, hbx]); have z5 : w1.cell? ⟨w.heap.size, 5, none⟩ = some (.int .i64 f) := (by simp [World.cell?, hbx]); clear hb hb1 hb3 hbx)
      go_meet
      exact ⟨by simp [badB, q1, q2, q3, q4], HB, HX⟩
    | false =>
    cases q5 : decide (b < -1073741824) with
    | true => 
      go_wp2_with (go_at_call 34; refine HAW.out.mono ?_; rintro e' w1 ⟨rfl, hb⟩; obtain ⟨hb1, hbx, hb3⟩ := mbelow_box hb; have HB := Aside0.mk hb1; have HX := Aside0.mk hbx; have z0 : w1.cell? ⟨w.heap.size, 0, none⟩ = some (.int .i64 a) := (by simp [World.cell?, hbx]); have z1 : w1.cell? ⟨w.heap.size, 1, none⟩ = some (.int .i64 b) := (by simp [World.cell?, hbx]); have z2 : w1.cell? ⟨w.heap.size, 2, none⟩ = some (.int .i64 c) := (by simp [World.cell?, hbx]); have z3 : w1.cell? ⟨w.heap.size, 3, none⟩ = some (.int .i64 d) := (by simp [World.cell?, hbx]); have z4 : w1.cell? ⟨w.heap.size, 4, none⟩ = some (.int .i64 e) := (by simp [World.cell?, hbx]); have z5 : w1.cell? ⟨w.heap.size, 5, none⟩ = some (.int .i64 f) := (by simp [World.cell?, hbx]); clear hb hb1 hb3 hbx)
      go_meet
      exact ⟨by simp [badB, q1, q2, q3, q4, q5], HB, HX⟩
    | false =>
    cases q6 : decide (a < -1048576) with
    | true => 
      go_wp2_with (go_at_call 34; refine HAW.out.mono ?_; rintro e' w1 ⟨rfl, hb⟩; obtain ⟨hb1, hbx, hb3⟩ := mbelow_box hb; have HB := Aside0.mk hb1; have HX := Aside0.mk hbx; have z0 : w1.cell? ⟨w.heap.size, 0, none⟩ = some (.int .i64 a) := (by simp [World.cell?, hbx]); have z1 : w1.cell? ⟨w.heap.size, 1, none⟩ = some (.int .i64 b) := (by simp [World.cell?, hbx]); have z2 : w1.cell? ⟨w.heap.size, 2, none⟩ = some (.int .i64 c) := (by simp [World.cell?, hbx]); have z3 : w1.cell? ⟨w.heap.size, 3, none⟩ = some (.int .i64 d) := (by simp [World.cell?, hbx]); have z4 : w1.cell? ⟨w.heap.size, 4, none⟩ = some (.int .i64 e) := (by simp [World.cell?, hbx]); have z5 : w1.cell? ⟨w.heap.size, 5, none⟩ = some (.int .i64 f) := (by simp [World.cell?, hbx]); clear hb hb1 hb3 hbx)
      go_meet
      exact ⟨by simp [badB, q1, q2, q3, q4, q5, q6], HB, HX⟩
    | false => 
      go_wp2_with (go_at_call 34; refine HAW.out.mono ?_; rintro e' w1 ⟨rfl, hb⟩; obtain ⟨hb1, hbx, hb3⟩ := mbelow_box hb; have HB := Aside0.mk hb1; have HX := Aside0.mk hbx; have z0 : w1.cell? ⟨w.heap.size, 0, none⟩ = some (.int .i64 a) := (by simp [World.cell?, hbx]); have z1 : w1.cell? ⟨w.heap.size, 1, none⟩ = some (.int .i64 b) := (by simp [World.cell?, hbx]); have z2 : w1.cell? ⟨w.heap.size, 2, none⟩ = some (.int .i64 c) := (by simp [World.cell?, hbx]); have z3 : w1.cell? ⟨w.heap.size, 3, none⟩ = some (.int .i64 d) := (by simp [World.cell?, hbx]); have z4 : w1.cell? ⟨w.heap.size, 4, none⟩ = some (.int .i64 e) := (by simp [World.cell?, hbx]); have z5 : w1.cell? ⟨w.heap.size, 5, none⟩ = some (.int .i64 f) := (by simp [World.cell?, hbx]); clear hb hb1 hb3 hbx)
      go_meet
      exact ⟨by simp [badB, q1, q2, q3, q4, q5, q6], HB, HX⟩
  case rest =>
    obtain ⟨rfl, HB, HX⟩ := hcut
    cases hbad : badB a b c with
    | true =>
      go_wp2_with (go_at_call 34; refine (HAWW.out wc HB.out).mono ?_; rintro e' w2 ⟨rfl, hb⟩; have HB2 := Aside0.mk (mbelow_step HB.out hb); clear hb)
      go_ret
      exact ⟨rfl, HB2.out⟩
    | false =>
      simp only [badB, Bool.or_eq_false_iff, decide_eq_false_iff_not] at hbad
      obtain ⟨b1, b2, b3, b4, b5, b6⟩ := hbad
      have HSE := Aside0.mk (fun W => settle_calls a b c d e f W (by omega) (by omega) (by omega) (by omega))
      have HRE := Aside0.mk (fun W => rest_calls a b c d e f n W (by omega) (by omega) hn0 hn1)
      have hc1 : -1073741824 ≤ c := by omega
      have hc2 : c ≤ 1073741824 := by omega
      have hd1 : -1073741824 ≤ b := by omega
      have hd2 : b ≤ 1073741824 := by omega
      have ha1 : -1048576 ≤ a := by omega
      have ha2 : a ≤ 1048576 := by omega
      have HC := Aside0.mk (fun (W : World) (hW : Below wc.heap.size wc W) => (show W.cell? ⟨w.heap.size, 0, none⟩ = some (.int .i64 a) ∧ W.cell? ⟨w.heap.size, 1, none⟩ = some (.int .i64 b) ∧ W.cell? ⟨w.heap.size, 2, none⟩ = some (.int .i64 c) ∧ W.cell? ⟨w.heap.size, 3, none⟩ = some (.int .i64 d) ∧ W.cell? ⟨w.heap.size, 4, none⟩ = some (.int .i64 e) ∧ W.cell? ⟨w.heap.size, 5, none⟩ = some (.int .i64 f) from by
        have hlt : w.heap.size < wc.heap.size := by
          rcases Nat.lt_or_ge w.heap.size wc.heap.size with h | h
          · exact h
          · have := HX.out; rw [Array.getElem?_eq_none h] at this; cases this
        have hbx := (hW.block _ hlt).trans HX.out
        simp [World.cell?, hbx]))
      obtain ⟨z0, z1, z2, z3, z4, z5⟩ := HC.out wc (Below.refl _ _)
      clear b1 b2 b3 b4 b5 b6
      have e1 : IntKind.i64.wrap (c + b) = c + b := IntWalk.i64_in _ (by omega)
      have e2 : IntKind.i64.wrap (c + b + 6) = c + b + 6 := IntWalk.i64_in _ (by omega)
      have e3 : IntKind.i64.wrap n = n := IntWalk.i64_in _ (by omega)
      have e4 : IntKind.i64.wrap (n + a) = n + a := IntWalk.i64_in _ (by omega)
      have e5 : IntKind.i64.wrap (4 * (n + a)) = 4 * (n + a) := IntWalk.i64_in _ (by omega)
      have e6 : IntKind.i64.wrap (20 + 4 * (n + a)) = 20 + 4 * (n + a) := IntWalk.i64_in _ (by omega)
      clear hc1 hc2 hd1 hd2 ha1 ha2 hn0 hn1 hsz
      have hmo : Tryz.prog.follows .mixedOrders = true := by kernel_rfl
      go_upto_region 3 with fail
      first
        | (go_region_held3 (fun W' => W'.cell? ⟨w.heap.size, 0, none⟩ = some (.int .i64 a) ∧ W'.cell? ⟨w.heap.size, 1, none⟩ = some (.int .i64 b) ∧ W'.cell? ⟨w.heap.size, 2, none⟩ = some (.int .i64 c) ∧ W'.cell? ⟨w.heap.size, 3, none⟩ = some (.int .i64 d) ∧ W'.cell? ⟨w.heap.size, 4, none⟩ = some (.int .i64 e) ∧ W'.cell? ⟨w.heap.size, 5, none⟩ = some (.int .i64 f))
            ((refine HC.out _ ?_; with_reducible repeat (first | exact HBY3.out | exact HBY2.out | exact Below.refl _ _ | refine Below.drew ?_)))
            (first
              | (go_at_call 35; refine (HSE.out _).mono ?_; rintro e' w2 ⟨rfl, hb⟩; have HBY2 := Aside0.mk (show Below wc.heap.size wc w2 from mbelow_step (by with_reducible repeat (first | exact Below.refl _ _ | refine Below.drew ?_)) hb); clear hb)
              | (go_at_call 36; refine (HRE.out _).mono ?_; rintro e' w3 ⟨rfl, hb⟩; have HBY3 := Aside0.mk (show Below wc.heap.size wc w3 from mbelow_step (by with_reducible repeat (first | exact HBY2.out | refine Below.drew ?_)) hb); clear hb)))
        | fail
      all_goals go_wp2_with fail
      all_goals go_ret
      all_goals exact ⟨rfl, HB.out.trans (HBY3.out.mono HB.out.size)⟩
end Go.Proofs.YtefleapekgbpcaaGreatDoor.Nw
