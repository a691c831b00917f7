/- node.New: contract. -/
import Derived.Test.YtefleapekgbpcaaGreatDoorHNewC
namespace Go.Proofs.YtefleapekgbpcaaGreatDoor.Nw
open Go.RowKit Go.Aex
set_option linter.unusedVariables false
set_option linter.unusedSimpArgs false
set_option maxHeartbeats 8000000 in
set_option maxRecDepth 100000 in
theorem node_New (a b c d e f s : Int) (w : World) (hT : TabAt 2 Lib.deBruijn32tab w) (hs : 2 < w.heap.size) :
    Calls Tryz.prog 21 #[.agg #[.int .i64 a, .int .i64 b, .int .i64 c, .int .i64 d, .int .i64 e, .int .i64 f], .int .i64 s] w (NewPost (okN a b c d e f s) w) := by
  have hsz : (w.alloc (.cells #[.int .i64 a, .int .i64 b, .int .i64 c, .int .i64 d, .int .i64 e, .int .i64 f] 23 (0, 0))).heap.size = w.heap.size + 1 := by show (w.heap.push _).size = _; simp
  have HB0 := Aside0.mk (Below.alloc (Below.refl _ w) (Nat.le_refl _) (.cells #[.int .i64 a, .int .i64 b, .int .i64 c, .int .i64 d, .int .i64 e, .int .i64 f] 23 (0, 0)))
  have HN := Aside0.mk (vsync_New a b c d e f s (w.alloc (.cells #[.int .i64 a, .int .i64 b, .int .i64 c, .int .i64 d, .int .i64 e, .int .i64 f] 23 (0, 0))) (fun j hj => by rw [HB0.out.cell (by exact hs)]; exact hT j hj) (by rw [hsz]; omega))
  clear hT hs
  cases hok : okN a b c d e f s with
  | false =>
    go_enter Tryz.func21, Tryz.ntmps21
    go_wp2_with (go_at_call 19; refine HN.out.mono ?_; rintro e' w1 ⟨hb, -, h2⟩; obtain rfl := h2 hok; have HB := Aside0.mk (HB0.out.trans (hb.mono (by rw [hsz]; omega))); clear hb h2)
    go_ret2
    exact NewPost.no rfl HB.out
  | true =>
    have hcond : 1 ≤ a ∧ a ≤ 16 ∧ 0 ≤ s ∧ s < a ∧ 1 ≤ f ∧ f ≤ 256 := by
      simp only [okN, formC, Bool.and_eq_true, decide_eq_true_eq] at hok
      omega
    go_enter Tryz.func21, Tryz.ntmps21
    go_wp2_with fail
    go_at_call 19
    refine HN.out.mono ?_
    rintro e' w1 ⟨hb, h2, -⟩
    obtain ⟨blk, hblk, rfl⟩ := h2 hok
    obtain ⟨hb1, hb2, hb3⟩ := below_box hb
    have z0 : w1.cell? ⟨w.heap.size, 0, none⟩ = some (.int .i64 a) := by simp [World.cell?, hb2]
    have z5 : w1.cell? ⟨w.heap.size, 5, none⟩ = some (.int .i64 f) := by simp [World.cell?, hb2]
    have HB1 := Aside0.mk hb1
    clear hb hb1 h2 HN HB0 hok
    go_wp2_with fail
    go_at_call 71
    refine (total_New a s f _ hcond.1 hcond.2.1 hcond.2.2.1 hcond.2.2.2.1 hcond.2.2.2.2.1 hcond.2.2.2.2.2).mono ?_
    rintro e' w2 ⟨hb, h2, -⟩
    obtain ⟨blk2, hblk2, rfl⟩ := h2 rfl
    have hs2 := hb.size
    have HB2 := Aside0.mk (HB1.out.trans (hb.mono (by omega)))
    clear hb hb2 h2 HB1
    go_wp2
    go_ret2
    exact NewPost.yes rfl (by with_reducible repeat (first | exact HB2.out | refine Below.alloc ?_ (by first | omega | (simp; done) | (simp; omega)) _)) (by first | omega | (simp; omega))
end Go.Proofs.YtefleapekgbpcaaGreatDoor.Nw
