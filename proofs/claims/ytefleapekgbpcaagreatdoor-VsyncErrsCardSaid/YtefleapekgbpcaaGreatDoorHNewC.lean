/- member.New, total.New, vsync.New, node.New: contracts. -/
import Derived.Test.YtefleapekgbpcaaGreatDoorHNewB
namespace Go.Proofs.YtefleapekgbpcaaGreatDoor.Nw
open Go.RowKit Go.Aex
set_option linter.unusedVariables false
set_option linter.unusedSimpArgs false
/-- A new channel. -/
theorem run_makeChan {E : Env} {P : Program} (hT : Tab E P) {t el : Nat} {dir : _} {ti te : TyI} (hti : E.ty t = some ti) (hd : ti.desc = .chan dir el) (hte : E.ty el = some te) {c : Nat} (e1 : c ≤ 1000000) (e2 : te.bytes ≤ 1000000) (w : World) :
    (Instr.makeChan t (.int .i64 c)).run P w = .ok (.chan (some w.heap.size)) (w.alloc (.chan c #[] false 0 0 false)) := by
  have hty := hT.ty t ti hti
  have htye := hT.ty el te hte
  obtain ⟨i, z, hi, hsz, hby, hz, hiz⟩ := htye.info
  have b1 : ¬ ((c : Int) < 0) := by omega
  have b2 : ¬ (IntKind.i64.max < (c : Int)) := by simp [IntKind.max, IntKind.bits, IntKind.signed]; omega
  have b3 : ¬ (281474976710544 < (te.bytes : Int) * (c : Int)) := by
    have : te.bytes * c ≤ 1000000 * 1000000 := Nat.mul_le_mul e2 e1
    have h2 : ((te.bytes * c : Nat) : Int) ≤ 1000000 * 1000000 := by omega
    rw [Int.natCast_mul] at h2; omega
  have b4 : ¬ (9223372036854775807 < (c : Int)) := by omega
  simp [Instr.makeChan, asInt, asIntOf, run_underlying_of hty.under, hd, run_typeInfo_of hi, hby, b1, b2, b3, b4]
theorem drew1 {w w' : World} {b : Nat} (h : Below b w w') : Below b w w'.drew := Below.drew h
set_option maxHeartbeats 8000000 in
set_option maxRecDepth 100000 in
theorem member_New (n s : Int) (w : World) (h1 : 1 ≤ n) (h2 : n ≤ 16) (h3 : 0 ≤ s) (h4 : s < n) :
    Calls Tryz.prog 69 #[.int .i64 n, .int .i64 s] w (NewPost true w) := by
  have d1 : decide (n < 1) = false := decide_eq_false (by omega)
  have d2 : decide (16 < n) = false := decide_eq_false (by omega)
  have d3 : decide (s < 0) = false := decide_eq_false (by omega)
  have d4 : decide (n ≤ s) = false := decide_eq_false (by omega)
  go_enter Tryz.func69, Tryz.ntmps69
  go_wp2
  go_ret2
  exact NewPost.yes rfl (Below.alloc (Below.refl _ _) (Nat.le_refl _) _) (Nat.le_refl _)
set_option maxHeartbeats 8000000 in
set_option maxRecDepth 100000 in
theorem total_New (n s q : Int) (w : World) (h1 : 1 ≤ n) (h2 : n ≤ 16) (h3 : 0 ≤ s) (h4 : s < n) (h5 : 1 ≤ q) (h6 : q ≤ 256) :
    Calls Tryz.prog 71 #[.int .i64 n, .int .i64 s, .int .i64 q] w (NewPost true w) := by
  have d1 : decide (n < 1) = false := decide_eq_false (by omega)
  have d2 : decide (16 < n) = false := decide_eq_false (by omega)
  have d3 : decide (s < 0) = false := decide_eq_false (by omega)
  have d4 : decide (n ≤ s) = false := decide_eq_false (by omega)
  have d5 : decide (q < 1) = false := decide_eq_false (by omega)
  have d6 : decide (256 < q) = false := decide_eq_false (by omega)
  obtain ⟨k, rfl⟩ : ∃ k : Nat, q = k := ⟨q.toNat, by omega⟩
  have hk : k ≤ 256 := by omega
  have hk1 : 1 ≤ k := by omega
  go_enter Tryz.func71, Tryz.ntmps71
  have hmc := run_makeChan Aexd.tab (t := 219) (E := Aexd.E0) (c := k) (by kernel_rfl : Aexd.E0.ty 219 = some Aexd.ty219) rfl (by kernel_rfl : Aexd.E0.ty 24 = some Aexd.ty24) (by omega) (by decide)
  have hmc0 := hmc w
  clear hmc
  have hmm0 : (Instr.makeMap 220 none).run Tryz.prog (w.alloc (.chan k #[] false 0 0 false)) = .ok (.map (some (w.alloc (.chan k #[] false 0 0 false)).heap.size)) ((w.alloc (.chan k #[] false 0 0 false)).alloc (.map #[] 0)) := by simp [Instr.makeMap]
  go_wp2
  go_ret2
  exact NewPost.yes rfl (by with_reducible repeat (first | exact Below.refl _ _ | refine Below.alloc ?_ (by first | omega | (simp; done) | (simp; omega)) _)) (by first | omega | (simp; omega))
set_option maxHeartbeats 8000000 in
set_option maxRecDepth 100000 in
theorem vsync_New (a b c d e f s : Int) (w : World) (hT : TabAt 2 Lib.deBruijn32tab w) (hs : 2 < w.heap.size) :
    Calls Tryz.prog 19 #[.agg #[.int .i64 a, .int .i64 b, .int .i64 c, .int .i64 d, .int .i64 e, .int .i64 f], .int .i64 s] w (NewPost (okN a b c d e f s) w) := by
  have hsz : (w.alloc (.cells #[.int .i64 a, .int .i64 b, .int .i64 c, .int .i64 d, .int .i64 e, .int .i64 f] 23 (0, 0))).heap.size = w.heap.size + 1 := by show (w.heap.push _).size = _; simp
  have HB0 := Aside0.mk (Below.alloc (Below.refl _ w) (Nat.le_refl _) (.cells #[.int .i64 a, .int .i64 b, .int .i64 c, .int .i64 d, .int .i64 e, .int .i64 f] 23 (0, 0)))
  have HN := Aside0.mk (beat_New a b c d e f s (w.alloc (.cells #[.int .i64 a, .int .i64 b, .int .i64 c, .int .i64 d, .int .i64 e, .int .i64 f] 23 (0, 0))) (fun j hj => by rw [HB0.out.cell (by exact hs)]; exact hT j hj) (by rw [hsz]; omega))
  clear hT hs
  cases hok : okN a b c d e f s with
  | false =>
    go_enter Tryz.func19, Tryz.ntmps19
    go_wp2_with (go_at_call 68; refine HN.out.mono ?_; rintro e' w1 ⟨hb, -, h2⟩; obtain rfl := h2 hok; have HB := Aside0.mk (HB0.out.trans (hb.mono (by rw [hsz]; omega))); clear hb h2)
    go_ret2
    exact NewPost.no rfl HB.out
  | true =>
    have hcond : 1 ≤ a ∧ a ≤ 16 ∧ 0 ≤ s ∧ s < a := by
      simp only [okN, formC, Bool.and_eq_true, decide_eq_true_eq] at hok
      exact ⟨hok.1.1, hok.1.2.1, hok.2.1, hok.2.2⟩
    go_enter Tryz.func19, Tryz.ntmps19
    go_wp2_with fail
    go_at_call 68
    refine HN.out.mono ?_
    rintro e' w1 ⟨hb, h2, -⟩
    obtain ⟨blk, hblk, rfl⟩ := h2 hok
    obtain ⟨hb1, hb2, hb3⟩ := below_box hb
    have z0 : w1.cell? ⟨w.heap.size, 0, none⟩ = some (.int .i64 a) := by simp [World.cell?, hb2]
    have HB1 := Aside0.mk hb1
    clear hb hb1 h2 HN HB0 hok
    go_wp2_with fail
    go_at_call 69
    refine (member_New a s _ hcond.1 hcond.2.1 hcond.2.2.1 hcond.2.2.2).mono ?_
    rintro e' w2 ⟨hb, h2, -⟩
    obtain ⟨blk2, hblk2, rfl⟩ := h2 rfl
    have hbx := (hb.block _ hb3).trans hb2
    have hs2 := hb.size
    have HB2 := Aside0.mk (HB1.out.trans (hb.mono (by omega)))
    have z0 : w2.cell? ⟨w.heap.size, 0, none⟩ = some (.int .i64 a) := by simp [World.cell?, hbx]
    have z1 : w2.cell? ⟨w.heap.size, 1, none⟩ = some (.int .i64 b) := by simp [World.cell?, hbx]
    have z2 : w2.cell? ⟨w.heap.size, 2, none⟩ = some (.int .i64 c) := by simp [World.cell?, hbx]
    have z3 : w2.cell? ⟨w.heap.size, 3, none⟩ = some (.int .i64 d) := by simp [World.cell?, hbx]
    have z4 : w2.cell? ⟨w.heap.size, 4, none⟩ = some (.int .i64 e) := by simp [World.cell?, hbx]
    have z5 : w2.cell? ⟨w.heap.size, 5, none⟩ = some (.int .i64 f) := by simp [World.cell?, hbx]
    clear hb hb2 h2 hbx HB1
    go_wp2
    go_ret2
    exact NewPost.yes rfl (by with_reducible repeat (first | exact HB2.out | refine Below.alloc ?_ (by first | omega | (simp; done) | (simp; omega)) _)) (by first | omega | (simp; omega))
end Go.Proofs.YtefleapekgbpcaaGreatDoor.Nw
