/- New functions of layers 12, 11, 14, 17, 18: contracts. -/
import Derived.Test.YtefleapekgbpcaaGreatDoorHNewA
import Derived.Deep.RegionHeld3
namespace Go.Proofs.YtefleapekgbpcaaGreatDoor.Nw
open Go.RowKit Go.Aex
set_option linter.unusedVariables false
set_option linter.unusedSimpArgs false
theorem below_box {w w1 : World} {o : Obj} (hb : Below (w.alloc o).heap.size (w.alloc o) w1) : Below w.heap.size w w1 ∧ w1.heap[w.heap.size]? = some o ∧ w.heap.size < w1.heap.size := by
  have hs : (w.alloc o).heap.size = w.heap.size + 1 := by show (w.heap.push o).size = _; simp
  refine ⟨(Below.alloc (Below.refl _ _) (Nat.le_refl _) o).trans (hb.mono (by omega)), ?_, by have := hb.size; omega⟩
  rw [hb.block _ (by omega)]
  show (w.heap.push o)[w.heap.size]? = _
  simp
def okN (a b c d e f s : Int) : Bool := formC a b c d e f && (decide (0 ≤ s) && decide (s < a))
theorem cell_drew {w : World} {p : Addr} {v : Value} (h : w.cell? p = some v) : w.drew.cell? p = some v := h
theorem cell_alloc {w : World} {p : Addr} {v : Value} (o : Obj) (hp : p.block < w.heap.size) (h : w.cell? p = some v) : (w.alloc o).cell? p = some v := by
  rw [Below.cell (Below.alloc (Below.refl _ w) (Nat.le_refl _) o) hp]; exact h
/-- What a New answers: something new, or none. -/
def NewPost (ok : Bool) (w : World) (e' : Ending) (w' : World) : Prop := Below w.heap.size w w' ∧
  (ok = true → ∃ blk, w.heap.size ≤ blk ∧ e' = .returned (.tuple #[.pointer (some ⟨blk, 0, none⟩), .int .i64 0])) ∧ (ok = false → e' = .returned (.tuple #[.pointer none, .int .i64 1]))
theorem NewPost.no {ok : Bool} {w w' : World} (h : ok = false) (hb : Below w.heap.size w w') : NewPost ok w (.returned (.tuple #[.pointer none, .int .i64 1])) w' := ⟨hb, fun e => (by rw [h] at e; cases e), fun _ => rfl⟩
theorem NewPost.yes {ok : Bool} {w w' : World} {blk : Nat} (h : ok = true) (hb : Below w.heap.size w w') (hk : w.heap.size ≤ blk) : NewPost ok w (.returned (.tuple #[.pointer (some ⟨blk, 0, none⟩), .int .i64 0])) w' := ⟨hb, fun _ => ⟨blk, hk, rfl⟩, fun e => (by rw [h] at e; cases e)⟩
set_option maxHeartbeats 8000000 in
set_option maxRecDepth 100000 in
theorem beat_New (a b c d e f s : Int) (w : World) (hT : TabAt 2 Lib.deBruijn32tab w) (hs : 2 < w.heap.size) :
    Calls Tryz.prog 68 #[.agg #[.int .i64 a, .int .i64 b, .int .i64 c, .int .i64 d, .int .i64 e, .int .i64 f], .int .i64 s] w (NewPost (okN a b c d e f s) w) := by
  cases hf : formC a b c d e f with
  | false =>
    have hn : okN a b c d e f s = false := by simp [okN, hf]
    go_enter Tryz.func68, Tryz.ntmps68
    go_wp2_with (go_at_call 129; refine (Form_calls a b c d e f _).mono ?_; rintro e' w1 ⟨rfl, hb⟩; rw [hf]; obtain ⟨hb1, hb2, hb3⟩ := below_box hb; have HB := Aside0.mk hb1; clear hb hb1)
    go_ret2
    exact NewPost.no hn HB.out
  | true =>
    by_cases h0 : s < 0
    · have hn : okN a b c d e f s = false := by simp [okN, hf]; omega
      have d0 : decide (s < 0) = true := decide_eq_true h0
      go_enter Tryz.func68, Tryz.ntmps68
      go_wp2_with (go_at_call 129; refine (Form_calls a b c d e f _).mono ?_; rintro e' w1 ⟨rfl, hb⟩; rw [hf]; obtain ⟨hb1, hb2, hb3⟩ := below_box hb; have HB := Aside0.mk hb1; clear hb hb1)
      go_ret2
      exact NewPost.no hn HB.out
    · have d0 : decide (s < 0) = false := decide_eq_false h0
      by_cases h1 : a ≤ s
      · have hn : okN a b c d e f s = false := by simp [okN, hf]; omega
        have d1 : decide (a ≤ s) = true := decide_eq_true h1
        go_enter Tryz.func68, Tryz.ntmps68
        go_wp2_with (go_at_call 129; refine (Form_calls a b c d e f _).mono ?_; rintro e' w1 ⟨rfl, hb⟩; rw [hf]; obtain ⟨hb1, hb2, hb3⟩ := below_box hb; have HB := Aside0.mk hb1; clear hb hb1; have c0 : w1.cell? ⟨w.heap.size, 0, none⟩ = some (.int .i64 a) := by simp [World.cell?, hb2])
        go_ret2
        exact NewPost.no hn HB.out
      · have hy : okN a b c d e f s = true := by simp [okN, hf]; omega
        have d1 : decide (a ≤ s) = false := decide_eq_false h1
        have HT := Aside0.mk hT
        have HS := Aside0.mk hs
        clear hT hs
        go_enter Tryz.func68, Tryz.ntmps68
        go_wp2_with (go_at_call 129; refine (Form_calls a b c d e f _).mono ?_; rintro e' w1 ⟨rfl, hb⟩; rw [hf]; obtain ⟨hb1, hb2, hb3⟩ := below_box hb; have HB := Aside0.mk hb1; clear hb hb1; have c0 : w1.cell? ⟨w.heap.size, 0, none⟩ = some (.int .i64 a) := by simp [World.cell?, hb2])
        obtain ⟨i, o, s1, n, s2, r1, r2⟩ := wheelRun_some
        have hsz := HB.out.size
        have HT1 : TabAt 2 Lib.deBruijn32tab w1 := fun j hj => by rw [HB.out.cell (by exact HS.out)]; exact HT.out j hj
        have HSM := Aexd.sums HT1 (by have := HS.out; omega)
        refine (open_run Aexd.tab HSM r1 (rel_nil w1) (fun _ _ _ => rfl) (ARGS := [.int .u64 0]) (by simp [concL, conc])).mono ?_
        rintro e' w2 ⟨ρ1, V, rfl, hext, hrel, hV⟩
        have hV2 : ∃ p, ρ1 i = some p ∧ V = .tuple #[.pointer (some ⟨p.blk, p.base + o, none⟩), .int .i64 0] := by
          simp only [conc, concL] at hV
          cases hp : ρ1 i with
          | none => rw [hp] at hV; simp at hV
          | some p => rw [hp] at hV; simp at hV; exact ⟨p, rfl, hV.symm⟩
        obtain ⟨p, hp, rfl⟩ := hV2
        have HB2 := Aside0.mk hrel.bel
        have HREL := Aside0.mk hrel
        have HEXT := Aside0.mk hext
        have HP := Aside0.mk hp
        have HR2 := Aside0.mk r2
        have HSM2 := Aside0.mk HSM
        clear hrel hext hV HT1 HSM r1 r2 hp
        have hb2' : w2.heap[w.heap.size]? = some _ := (HB2.out.block _ hb3).trans hb2
        go_wp2_with fail
        go_at_call 91
        have hfree : ∀ k, s1.nx ≤ k → k < s2.nx → ρ1 k = none := fun k h1 h2 => by rw [HEXT.out.2 k (fun h => by have := h.2; omega)]; rfl
        refine (open_run Aexd.tab HSM2.out HR2.out HREL.out hfree (ARGS := [.pointer (some ⟨p.blk, p.base + o, none⟩), .int .i64 16, .int .u64 1]) (by simp [concL, conc, HP.out])).mono ?_
        rintro e' w3 ⟨ρ2, V, rfl, _, hrel, hV⟩
        obtain rfl := int_conc hV
        have HB3 := Aside0.mk hrel.bel
        have hb3' := (HB3.out.block _ hb3).trans hb2
        have HB4 := Aside0.mk (HB.out.trans (HB3.out.mono hsz))
        have hs3 : w.heap.size < w3.heap.size := by have := HB3.out.size; omega
        clear hV hrel hfree HEXT HREL HR2 HSM2 HP HT HS hb2 hb2' HB HB2 HB3 hsz
        obtain ⟨k, rfl⟩ : ∃ k : Nat, s = k := ⟨s.toNat, by omega⟩
        have z0 : w3.cell? ⟨w.heap.size, 0, none⟩ = some (.int .i64 a) := by simp [World.cell?, hb3']
        have z1 : w3.cell? ⟨w.heap.size, 1, none⟩ = some (.int .i64 b) := by simp [World.cell?, hb3']
        have z2 : w3.cell? ⟨w.heap.size, 2, none⟩ = some (.int .i64 c) := by simp [World.cell?, hb3']
        have hk : k < 16 := by
          have : a ≤ 16 := by
            simp only [formC, Bool.and_eq_true, decide_eq_true_eq] at hf
            exact hf.2.1
          omega
        clear hb3' d1 d0 c0
        go_wp2_with fail
        go_region_held3 (fun w' => w'.cell? ⟨w.heap.size, 0, none⟩ = some (.int .i64 a) ∧ w'.cell? ⟨w.heap.size, 1, none⟩ = some (.int .i64 b) ∧ w'.cell? ⟨w.heap.size, 2, none⟩ = some (.int .i64 c))
          (refine ⟨?_, ?_, ?_⟩ <;> (with_reducible repeat (first | exact z0 | exact z1 | exact z2 | refine cell_drew ?_ | refine cell_alloc _ (by first | omega | (simp; omega)) ?_)))
          (first | (go_at_call 95; refine (With_calls k hk _).mono ?_; rintro e' w4 ⟨⟨r, rfl⟩, rfl⟩))
        all_goals go_wp2
        all_goals go_ret2
        all_goals exact NewPost.yes hy (by with_reducible repeat (first | exact HB4.out | refine Below.drew ?_ | refine Below.alloc ?_ (by first | omega | (simp; omega)) _)) (by first | omega | (simp; omega))
end Go.Proofs.YtefleapekgbpcaaGreatDoor.Nw
