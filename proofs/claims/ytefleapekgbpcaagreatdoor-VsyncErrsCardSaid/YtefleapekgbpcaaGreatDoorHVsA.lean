/- vsync.New with what it lays. -/
import Derived.Test.YtefleapekgbpcaaGreatDoorHNewC
import Derived.Test.YtefleapekgbpcaaGreatDoorAexS3
namespace Go.Proofs.YtefleapekgbpcaaGreatDoor.Nw
open Go.RowKit Go.Aex
set_option linter.unusedVariables false
set_option linter.unusedSimpArgs false
/-- What member.New lays: no view. -/
def MemPost (w : World) (e' : Ending) (w' : World) : Prop := Below w.heap.size w w' ∧ ∃ blk c t, w.heap.size ≤ blk ∧ blk < w'.heap.size ∧ e' = .returned (.tuple #[.pointer (some ⟨blk, 0, none⟩), .int .i64 0]) ∧ w'.heap[blk]? = some (.cells c t (0, 0)) ∧ 3 ≤ c.size ∧ c[2]? = some (.int .u64 0)
/-- What vsync.New lays: the member's place, nothing to be sent, nothing that has happened. -/
def GrpPost (ok : Bool) (w : World) (e' : Ending) (w' : World) : Prop := Below w.heap.size w w' ∧ (ok = false → e' = .returned (.tuple #[.pointer none, .int .i64 1])) ∧
  (ok = true → ∃ G M c t c2 t2, w.heap.size ≤ G ∧ w.heap.size ≤ M ∧ G ≠ M ∧ e' = .returned (.tuple #[.pointer (some ⟨G, 0, none⟩), .int .i64 0]) ∧ w'.heap[G]? = some (.cells c t (0, 0)) ∧ 35 ≤ c.size ∧ c[8]? = some (.pointer (some ⟨M, 0, none⟩)) ∧ c[33]? = some (.slice none 0 0) ∧ c[34]? = some (.slice none 0 0) ∧ w'.heap[M]? = some (.cells c2 t2 (0, 0)) ∧ 3 ≤ c2.size ∧ c2[2]? = some (.int .u64 0))
set_option maxHeartbeats 8000000 in
set_option maxRecDepth 100000 in
theorem member_NewG (n s : Int) (w : World) (h1 : 1 ≤ n) (h2 : n ≤ 16) (h3 : 0 ≤ s) (h4 : s < n) :
    Calls Tryz.prog 69 #[.int .i64 n, .int .i64 s] w (MemPost w) := by
  have d1 : decide (n < 1) = false := decide_eq_false (by omega)
  have d2 : decide (16 < n) = false := decide_eq_false (by omega)
  have d3 : decide (s < 0) = false := decide_eq_false (by omega)
  have d4 : decide (n ≤ s) = false := decide_eq_false (by omega)
  go_enter Tryz.func69, Tryz.ntmps69
  go_wp2
  go_ret2
  exact ⟨Below.alloc (Below.refl _ _) (Nat.le_refl _) _, w.heap.size, _, _, Nat.le_refl _, by simp, rfl, heap_alloc_new w _, by simp, rfl⟩
set_option maxHeartbeats 8000000 in
set_option maxRecDepth 100000 in
theorem vsync_NewG (a b c d e f s : Int) (w : World) (hT : TabAt 2 Lib.deBruijn32tab w) (hs : 2 < w.heap.size) :
    Calls Tryz.prog 19 #[.agg #[.int .i64 a, .int .i64 b, .int .i64 c, .int .i64 d, .int .i64 e, .int .i64 f], .int .i64 s] w (GrpPost (okN a b c d e f s) w) := by
  have hsz : (w.alloc (.cells #[.int .i64 a, .int .i64 b, .int .i64 c, .int .i64 d, .int .i64 e, .int .i64 f] 23 (0, 0))).heap.size = w.heap.size + 1 := by show (w.heap.push _).size = _; simp
  have HB0 := Aside0.mk (Below.alloc (Below.refl _ w) (Nat.le_refl _) (.cells #[.int .i64 a, .int .i64 b, .int .i64 c, .int .i64 d, .int .i64 e, .int .i64 f] 23 (0, 0)))
  have HN := Aside0.mk (beat_New a b c d e f s (w.alloc (.cells #[.int .i64 a, .int .i64 b, .int .i64 c, .int .i64 d, .int .i64 e, .int .i64 f] 23 (0, 0))) (fun j hj => by rw [HB0.out.cell (by exact hs)]; exact hT j hj) (by rw [hsz]; omega))
  clear hT hs
  cases hok : okN a b c d e f s with
  | false =>
    go_enter Tryz.func19, Tryz.ntmps19
    go_wp2_with (go_at_call 68; refine HN.out.mono ?_; rintro e' w1 ⟨hb, -, h2⟩; obtain rfl := h2 hok; have HB := Aside0.mk (HB0.out.trans (hb.mono (by rw [hsz]; omega))); clear hb h2)
    go_ret2
    exact ⟨HB.out, fun _ => rfl, fun e => nomatch e⟩
  | true =>
    have hcond : 1 ≤ a ∧ a ≤ 16 ∧ 0 ≤ s ∧ s < a := by
      simp only [okN, formC, Bool.and_eq_true, decide_eq_true_eq] at hok
      exact ⟨hok.1.1, hok.1.2.1, hok.2.1, hok.2.2⟩
    go_enter Tryz.func19, Tryz.ntmps19
    go_wp2_with fail
    go_at_call 68
    refine HN.out.mono ?_
    rintro e' w1 ⟨hb, h2, -⟩
    obtain ⟨blk, hblk, rfl⟩ := h2 hok
    obtain ⟨hb1, hb2, hb3⟩ := below_box hb
    have z0 : w1.cell? ⟨w.heap.size, 0, none⟩ = some (.int .i64 a) := by simp [World.cell?, hb2]
    have HB1 := Aside0.mk hb1
    clear hb hb1 h2 HN HB0 hok
    go_wp2_with fail
    go_at_call 69
    refine (member_NewG a s _ hcond.1 hcond.2.1 hcond.2.2.1 hcond.2.2.2).mono ?_
    rintro e' w2 ⟨hb, blk2, cM, tM, hblk2, hlt2, rfl, hM, hM3, hM2⟩
    have HM := Aside0.mk hM
    have HM3 := Aside0.mk hM3
    have HM2 := Aside0.mk hM2
    clear hM hM3 hM2
    have hbx := (hb.block _ hb3).trans hb2
    have hs2 := hb.size
    have HB2 := Aside0.mk (HB1.out.trans (hb.mono (by omega)))
    have z0 : w2.cell? ⟨w.heap.size, 0, none⟩ = some (.int .i64 a) := by simp [World.cell?, hbx]
    have z1 : w2.cell? ⟨w.heap.size, 1, none⟩ = some (.int .i64 b) := by simp [World.cell?, hbx]
    have z2 : w2.cell? ⟨w.heap.size, 2, none⟩ = some (.int .i64 c) := by simp [World.cell?, hbx]
    have z3 : w2.cell? ⟨w.heap.size, 3, none⟩ = some (.int .i64 d) := by simp [World.cell?, hbx]
    have z4 : w2.cell? ⟨w.heap.size, 4, none⟩ = some (.int .i64 e) := by simp [World.cell?, hbx]
    have z5 : w2.cell? ⟨w.heap.size, 5, none⟩ = some (.int .i64 f) := by simp [World.cell?, hbx]
    clear hb hb2 hbx HB1
    go_wp2
    go_ret2
    have hold : ∀ o : Obj, (w2.alloc o).heap[blk2]? = w2.heap[blk2]? := fun o => by
      show (w2.heap.push o)[blk2]? = _
      simp [Array.getElem?_push, Nat.ne_of_lt hlt2]
    refine ⟨(by with_reducible repeat (first | exact HB2.out | refine Below.alloc ?_ (by first | omega | (simp; done) | (simp; omega)) _)), (fun e => nomatch e), fun _ => ⟨w2.heap.size, blk2, _, _, cM, tM, ?_, ?_, ?_, rfl, heap_alloc_new w2 _, ?_, rfl, rfl, rfl, by rw [hold]; exact HM.out, HM3.out, HM2.out⟩⟩
    · exact HB2.out.size
    · omega
    · omega
    · simp
end Go.Proofs.YtefleapekgbpcaaGreatDoor.Nw
