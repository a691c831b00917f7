/- folkmootlaw21.ShellReads: the walk. -/
import Derived.Test.YtefleapekgbpcaaGreatDoorHShR5
import Derived.Test.YtefleapekgbpcaaGreatDoorHShN
import Derived.Laws.IdiomStrings
import Derived.Lib.BufferRead
namespace Go.Proofs.YtefleapekgbpcaaGreatDoor.Shl
open Go.RowKit
set_option linter.unusedVariables false
set_option linter.unusedSimpArgs false
theorem Bt.conv {w : World} {v : Value} {m : List UInt8} (h : Bt w v m) : (convert 24 9 v).run Tryz.prog w = .ok (.string ⟨m.toArray⟩) w := by
  rcases h with ⟨rfl, rfl⟩ | ⟨b, c, cs, t, fr, rfl, h2, h3⟩
  · exact Lib.run_convert_nil_bytes w _ _ 5 0 Tryz.underlying24 Tryz.underlying5 Tryz.underlying9
  · refine run_convert_bytes_back w _ _ 5 _ c m Tryz.underlying24 Tryz.underlying5 Tryz.underlying9 fun j hj => ?_
    have : ((⟨b, 0, none⟩ : Addr).add j) = ⟨b, j, none⟩ := by unfold Addr.add; split <;> simp_all
    rw [this]
    simp [World.cell?, h2, h3 j hj]
theorem parse_nil {s : List UInt8} {k i j : Nat} {m : List UInt8} (h : parseP s = some (k, i, j, m)) (hk : k ≠ 0) : m = [] := by
  unfold parseP at h
  split at h
  · cases h
  · split at h
    · cases h
    · rename_i K _ x hx
      injection h with h
      injection h with h1 h2
      subst h1 h2
      unfold parseK at hx
      split at hx
      · cases hx
      · split at hx
        · split at hx
          · cases hx
          · split at hx
            · cases hx
            · split at hx <;> cases hx
              rfl
        · split at hx
          · rename_i h0 _; exact absurd (by simpa using h0) hk
          · cases hx; rfl
          · cases hx
theorem ParsePost.bt {s : List UInt8} {w w' : World} {e : Ending} (h : ParsePost s w e w') (h2 : ¬ 200 < s.length) {k i j : Nat} {m : List UInt8} (hp : parseP s = some (k, i, j, m)) :
    Below w.heap.size w w' ∧ ∃ ad dl dc, e = .returned (.tuple #[.agg #[.int .u8 k, .int .i64 i, .int .i64 j, .slice ad dl dc], .int .i64 0]) ∧ Bt w' (.slice ad dl dc) m := by
  obtain ⟨h1, h3⟩ := h
  rw [if_neg h2, hp] at h3
  obtain ⟨M, h4, h5⟩ := h3
  refine ⟨h1, ?_⟩
  split at h5
  · obtain ⟨b, c, cs, t, fr, rfl, a1, a2, a3, a4, a5, a6⟩ := h5
    exact ⟨_, _, _, h4, .inr ⟨b, c, cs, t, fr, rfl, a2, a6⟩⟩
  · rename_i hk
    subst h5
    exact ⟨_, _, _, h4, .inl ⟨rfl, parse_nil hp hk⟩⟩
set_option maxHeartbeats 4000000 in
set_option maxRecDepth 100000 in
theorem shellReads (s : List UInt8) (hs : s.length ≤ 140737488355328) (w : World) (hT : Tabs w) (haw : Aw w) :
    Calls Tryz.prog 6 #[str s] w (fun e w' => e = .returned (.bool true) ∧ Below w.heap.size w w') := by
  have hz : (⟨s.toArray⟩ : ByteArray).size = s.length := str_size s
  have HA0 := Aside0.mk (haw w (Below.refl _ _))
  have HR := Aside0.mk (fun W : World => read_calls s (by omega) W)
  by_cases h200 : 200 < s.length
  · have q1 : decide (200 < (((⟨s.toArray⟩ : ByteArray).size : Nat) : Int)) = true := by simp; omega
    have HP := Aside0.mk (fun (W : World) (h : Below w.heap.size w W) => (Parse_calls s (by omega) W (hT.below h)).mono (R' := fun e w' => e = .returned (.tuple #[.agg #[.int .u8 0, .int .i64 0, .int .i64 0, .slice none 0 0], .int .i64 2]) ∧ Below W.heap.size W w') fun e w' ⟨a1, a2⟩ => ⟨by rw [if_pos h200] at a2; exact a2, a1⟩)
    simp only [str] at HP HR ⊢
    clear hz hs hT h200 haw
    generalize (⟨s.toArray⟩ : ByteArray) = S at *
    go_enter Tryz.func6, Tryz.ntmps6
    go_wp2_with (first
      | (go_at_call 37; refine HA0.out.mono ?_; rintro e w1 ⟨rfl, hb⟩; have HB1 := Aside0.mk hb; clear hb)
      | (go_at_call 38; refine (HP.out _ HB1.out).mono ?_; rintro e w2 ⟨rfl, hb⟩; have HB2 := Aside0.mk (below_trans HB1.out hb); clear hb)
      | (go_at_call 39; refine (HR.out _).mono ?_; rintro e w3 ⟨hb, a, b, c, ad, dl, dc, rfl, _⟩; obtain ⟨b1, b2, b3⟩ := below_box hb; have HB3 := Aside0.mk (below_trans HB2.out b1); have hx := fun o => (k_cells (k_alloc b2 o)).1; have hx1 := fun o => (k_cells (k_alloc b2 o)).2.1; clear hb b1 b2 b3))
    go_ret
    exact ⟨rfl, HB3.out.alloc HB3.out.size _⟩
  · have q1 : decide (200 < (((⟨s.toArray⟩ : ByteArray).size : Nat) : Int)) = false := by simp; omega
    cases hp : parseP s with
    | none =>
      have HP := Aside0.mk (fun (W : World) (h : Below w.heap.size w W) => (Parse_calls s (by omega) W (hT.below h)).mono (R' := fun e w' => e = .returned (.tuple #[.agg #[.int .u8 0, .int .i64 0, .int .i64 0, .slice none 0 0], .int .i64 4]) ∧ Below W.heap.size W w') fun e w' ⟨a1, a2⟩ => ⟨by rw [if_neg h200, hp] at a2; exact a2, a1⟩)
      have HR := Aside0.mk (fun W : World => (HR.out W).mono (R' := fun e w' => Below W.heap.size W w' ∧ ∃ (a b c : Int) (ad : Option Addr) (dl dc : Nat), e = .returned (.tuple #[.agg #[.int .u8 a, .int .i64 b, .int .i64 c, .slice ad dl dc], .bool false])) fun e w' ⟨a1, a, b, c, ad, dl, dc, a2, _⟩ => ⟨a1, a, b, c, ad, dl, dc, by rw [a2, hp]; rfl⟩)
      simp only [str] at HP HR ⊢
      clear hz hs hT h200 haw
      generalize (⟨s.toArray⟩ : ByteArray) = S at *
      go_enter Tryz.func6, Tryz.ntmps6
      go_wp2_with (first
        | (go_at_call 37; refine HA0.out.mono ?_; rintro e w1 ⟨rfl, hb⟩; have HB1 := Aside0.mk hb; clear hb)
        | (go_at_call 38; refine (HP.out _ HB1.out).mono ?_; rintro e w2 ⟨rfl, hb⟩; have HB2 := Aside0.mk (below_trans HB1.out hb); clear hb)
        | (go_at_call 39; refine (HR.out _).mono ?_; rintro e w3 ⟨hb, a, b, c, ad, dl, dc, rfl⟩; obtain ⟨b1, b2, b3⟩ := below_box hb; have HB3 := Aside0.mk (below_trans HB2.out b1); have hx1 := fun o => (k_cells (k_alloc b2 o)).2.1; have hx2 := fun o => (k_cells (k_alloc b2 o)).2.2.1; have hx3 := fun o => (k_cells (k_alloc b2 o)).2.2.2.1; clear hb b1 b2 b3))
      go_ret
      exact ⟨rfl, HB3.out.alloc HB3.out.size _⟩
    | some x =>
      obtain ⟨k, i, j, m⟩ := x
      have HP := Aside0.mk (fun (W : World) (h : Below w.heap.size w W) => (Parse_calls s (by omega) W (hT.below h)).mono fun e w' a => a.bt h200 hp)
      have HR := Aside0.mk (fun W : World => (HR.out W).mono (R' := fun e w' => Below W.heap.size W w' ∧ ∃ (ad : Option Addr) (dl dc : Nat), e = .returned (.tuple #[.agg #[.int .u8 (k : Int), .int .i64 (i : Int), .int .i64 (j : Int), .slice ad dl dc], .bool true]) ∧ Bt w' (.slice ad dl dc) m) fun e w' ⟨a1, a, b, c, ad, dl, dc, a2, a3⟩ => by
        obtain ⟨rfl, rfl, rfl, a4⟩ := a3 k i j m hp
        exact ⟨a1, ad, dl, dc, by rw [a2, hp]; rfl, a4⟩)
      have heq : ((⟨m.toArray⟩ : ByteArray).toList == (⟨m.toArray⟩ : ByteArray).toList) = true := by simp
      simp only [str] at HP HR ⊢
      clear hz hs hT h200 haw hp
      generalize (⟨s.toArray⟩ : ByteArray) = S at *
      go_enter Tryz.func6, Tryz.ntmps6
      go_wp2_with (first
        | (go_at_call 37; refine HA0.out.mono ?_; rintro e w1 ⟨rfl, hb⟩; have HB1 := Aside0.mk hb; clear hb)
        | (go_at_call 38; refine (HP.out _ HB1.out).mono ?_; rintro e w2 ⟨hb, ad1, dl1, dc1, rfl, hbt⟩; have HB2 := Aside0.mk (below_trans HB1.out hb); have HT2 := Aside0.mk hbt; clear hb hbt)
        | (go_at_call 39; refine (HR.out _).mono ?_; rintro e w3 ⟨hb, ad2, dl2, dc2, rfl, hbt⟩; obtain ⟨b1, b2, b3⟩ := below_box hb; have HB3 := Aside0.mk (below_trans HB2.out b1); have hx0 := fun o => (k_cells (k_alloc b2 o)).1; have hx1 := fun o => (k_cells (k_alloc b2 o)).2.1; have hx2 := fun o => (k_cells (k_alloc b2 o)).2.2.1; have hx3 := fun o => (k_cells (k_alloc b2 o)).2.2.2.1; have hm1 := fun o => Bt.conv ((HT2.out.below b1).below (Below.alloc (Below.refl _ w3) (Nat.le_refl _) o)); have hm2 := fun o => Bt.conv (hbt.below (Below.alloc (Below.refl _ w3) (Nat.le_refl _) o)); clear hb hbt b1 b2 b3))
      go_ret
      exact ⟨rfl, HB3.out.alloc HB3.out.size _⟩
end Go.Proofs.YtefleapekgbpcaaGreatDoor.Shl
