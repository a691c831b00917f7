/- folkmootlaw21.ShellNumbers: the walk. -/
import Derived.Test.YtefleapekgbpcaaGreatDoorHShC
namespace Go.Proofs.YtefleapekgbpcaaGreatDoor.Shl
open Go.RowKit
set_option linter.unusedVariables false
set_option linter.unusedSimpArgs false
theorem str_append (a b : List UInt8) : (⟨a.toArray⟩ : ByteArray) ++ (⟨b.toArray⟩ : ByteArray) = ⟨(a ++ b).toArray⟩ := by
  apply ByteArray.ext
  simp
/-- What awake's contract says. -/
def Aw (w : World) : Prop := ∀ W, Below w.heap.size w W → Calls Tryz.prog 37 #[] W (fun e w' => e = .returned (.bool true) ∧ Below W.heap.size W w')
set_option maxHeartbeats 4000000 in
set_option maxRecDepth 100000 in
theorem shellNumbers (s : List UInt8) (hs : s.length ≤ 140737488355328) (w : World) (hT : Tabs w) (haw : Aw w) :
    Calls Tryz.prog 8 #[str s] w (fun e w' => e = .returned (.bool true) ∧ Below w.heap.size w w') := by
  have hz : (⟨s.toArray⟩ : ByteArray).size = s.length := str_size s
  have HA := Aside0.mk haw
  have HA0 := Aside0.mk (haw w (Below.refl _ _))
  by_cases h60 : 60 < s.length
  · have q1 : decide (60 < (((⟨s.toArray⟩ : ByteArray).size : Nat) : Int)) = true := by simp; omega
    clear hz hs hT h60 haw
    simp only [str]
    generalize (⟨s.toArray⟩ : ByteArray) = S at *
    go_enter Tryz.func8, Tryz.ntmps8
    go_upto_region 2 with (go_at_call 37; refine HA0.out.mono ?_; rintro e w1 ⟨rfl, hb⟩; have HB1 := Aside0.mk hb; clear hb)
    go_wp2_with (go_at_call 37; refine (HA.out _ HB1.out).mono ?_; rintro e w2 ⟨rfl, hb⟩; have HB2 := Aside0.mk (below_trans HB1.out hb); clear hb)
    go_ret
    exact ⟨rfl, HB2.out⟩
  have q1 : decide (60 < (((⟨s.toArray⟩ : ByteArray).size : Nat) : Int)) = false := by simp; omega
  rcases cut_cases s with ⟨_, h2⟩ | ⟨a, r, rfl, h2, _⟩
  · have HG := Aside0.mk (fun (k : Nat) (hk : k < (⟨s.toArray⟩ : ByteArray).size) => (show (((⟨s.toArray⟩ : ByteArray)[k].toNat : Int) == 32) = false from by
      rw [str_get s k hk (by omega)]; exact ne32 _ (h2 _ (List.getElem_mem _))))
    obtain ⟨n1, n2, n3⟩ := numbers s h2
    have ee : ∀ x : List UInt8, ((⟨x.toArray⟩ : ByteArray) ++ (⟨s.toArray⟩ : ByteArray)) = ⟨(x ++ s).toArray⟩ := fun x => str_append x s
    have e3 : (((⟨[98, 99, 97, 115, 116, 32].toArray⟩ : ByteArray) ++ (⟨s.toArray⟩ : ByteArray)) ++ (⟨[32].toArray⟩ : ByteArray)) = ⟨([98, 99, 97, 115, 116, 32] ++ s ++ [32]).toArray⟩ := by rw [str_append, str_append]
    have HL := Aside0.mk (fun W => lawNumber_calls s (by omega) W)
    cases hn : numP s with
    | none =>
      rw [hn] at n1 n2 n3
      have HP1 := Aside0.mk (fun (W : World) (h : Below w.heap.size w W) => (show Calls Tryz.prog 38 #[.string ((⟨#[116, 105, 99, 107, 32]⟩ : ByteArray) ++ ⟨s.toArray⟩)] W (fun e w' => e = .returned (.tuple #[zstep, .int .i64 4]) ∧ Below W.heap.size W w') from by
        rw [ee]; exact (Parse_calls ([116, 105, 99, 107, 32] ++ s) (by simp; omega) W (hT.below h)).mono fun e w' ⟨a1, a2⟩ => ⟨by rw [if_neg (by simp; omega), n1] at a2; exact a2, a1⟩))
      have HP2 := Aside0.mk (fun (W : World) (h : Below w.heap.size w W) => (show Calls Tryz.prog 38 #[.string ((⟨#[99, 117, 116, 32, 49, 32]⟩ : ByteArray) ++ ⟨s.toArray⟩)] W (fun e w' => e = .returned (.tuple #[zstep, .int .i64 4]) ∧ Below W.heap.size W w') from by
        rw [ee]; exact (Parse_calls ([99, 117, 116, 32, 49, 32] ++ s) (by simp; omega) W (hT.below h)).mono fun e w' ⟨a1, a2⟩ => ⟨by rw [if_neg (by simp; omega), n2] at a2; exact a2, a1⟩))
      have HP3 := Aside0.mk (fun (W : World) (h : Below w.heap.size w W) => (show Calls Tryz.prog 38 #[.string (((⟨#[98, 99, 97, 115, 116, 32]⟩ : ByteArray) ++ ⟨s.toArray⟩) ++ ⟨#[32]⟩)] W (fun e w' => e = .returned (.tuple #[zstep, .int .i64 4]) ∧ Below W.heap.size W w') from by
        rw [e3]; exact (Parse_calls ([98, 99, 97, 115, 116, 32] ++ s ++ [32]) (by simp; omega) W (hT.below h)).mono fun e w' ⟨a1, a2⟩ => ⟨by rw [if_neg (by simp; omega), n3] at a2; exact a2, a1⟩))
      have hv : numV s = -1 := by unfold numV; rw [hn]
      rw [hv] at HL
      simp only [zstep] at HP1 HP2 HP3
      have hzz : (⟨s.toArray⟩ : ByteArray).size ≤ 60 := by omega
      clear n1 n2 n3 ee e3 hn hv hT haw h60 hz hs h2
      simp only [str] at HL ⊢
      generalize (⟨s.toArray⟩ : ByteArray) = S at *
      go_enter Tryz.func8, Tryz.ntmps8
      go_wp2_with (go_at_call 37; refine HA0.out.mono ?_; rintro e w1 ⟨rfl, hb⟩; have HB1 := Aside0.mk hb; clear hb)
      go_loop [3] (fun i => ∃ k : Nat, k ≤ S.size ∧ i = .int .i64 k) (fun i => S.size - (intOf i).toNat)
      case atStart => exact ⟨0, Nat.zero_le _, rfl⟩
      case round =>
        obtain ⟨k, hk, rfl⟩ := hrel
        by_cases hlt : k < S.size
        · have hq := HG.out k hlt
          have hlt' : (k : Int) < (S.size : Int) := by omega
          go_wp2
          exact ⟨⟨k + 1, by omega, by simp⟩, by simp [intOf]; omega⟩
        · obtain rfl : k = S.size := by omega
          go_wp2_with (first
            | (go_at_call 38; with_reducible refine (HP1.out _ HB1.out).mono ?_; rintro e w2 ⟨rfl, hb⟩; have HB2 := Aside0.mk (below_trans HB1.out hb); clear hb)
            | (go_at_call 38; with_reducible refine (HP2.out _ (HB2.out.alloc HB2.out.size _)).mono ?_; rintro e w3 ⟨rfl, hb⟩; obtain ⟨b1, b2, b3⟩ := below_box hb; have HB3 := Aside0.mk (below_trans HB2.out b1); have HX3 := Aside0.mk b2; clear hb b1 b2 b3)
            | (go_at_call 38; with_reducible refine (HP3.out _ (HB3.out.alloc HB3.out.size _)).mono ?_; rintro e w4 ⟨rfl, hb⟩; obtain ⟨b1, b2, b3⟩ := below_box hb; have HB4 := Aside0.mk (below_trans HB3.out b1); have HX4 := Aside0.mk (k_below HX3.out b1); have HY4 := Aside0.mk b2; clear hb b1 b2 b3)
            | (go_at_call 42; refine (HL.out _).mono ?_; rintro e w5 ⟨rfl, rfl⟩))
          go_ret
          exact ⟨rfl, HB4.out.alloc HB4.out.size _⟩
    | some n =>
      rw [hn] at n1 n2 n3
      have HP1 := Aside0.mk (fun (W : World) (h : Below w.heap.size w W) => (show Calls Tryz.prog 38 #[.string ((⟨#[116, 105, 99, 107, 32]⟩ : ByteArray) ++ ⟨s.toArray⟩)] W (fun e w' => e = .returned (.tuple #[.agg #[.int .u8 1, .int .i64 n, .int .i64 0, .slice none 0 0], .int .i64 0]) ∧ Below W.heap.size W w') from by
        rw [ee]; exact (Parse_calls ([116, 105, 99, 107, 32] ++ s) (by simp; omega) W (hT.below h)).mono fun e w' ⟨a1, a2⟩ => ⟨by
          rw [if_neg (by simp; omega), n1] at a2
          obtain ⟨M, a3, a4⟩ := a2
          rw [if_neg (by decide)] at a4; subst a4; exact a3, a1⟩))
      have HP2 := Aside0.mk (fun (W : World) (h : Below w.heap.size w W) => (show Calls Tryz.prog 38 #[.string ((⟨#[99, 117, 116, 32, 49, 32]⟩ : ByteArray) ++ ⟨s.toArray⟩)] W (fun e w' => e = .returned (.tuple #[.agg #[.int .u8 6, .int .i64 1, .int .i64 n, .slice none 0 0], .int .i64 0]) ∧ Below W.heap.size W w') from by
        rw [ee]; exact (Parse_calls ([99, 117, 116, 32, 49, 32] ++ s) (by simp; omega) W (hT.below h)).mono fun e w' ⟨a1, a2⟩ => ⟨by
          rw [if_neg (by simp; omega), n2] at a2
          obtain ⟨M, a3, a4⟩ := a2
          rw [if_neg (by decide)] at a4; subst a4; exact a3, a1⟩))
      have HP3 := Aside0.mk (fun (W : World) (h : Below w.heap.size w W) => (show Calls Tryz.prog 38 #[.string (((⟨#[98, 99, 97, 115, 116, 32]⟩ : ByteArray) ++ ⟨s.toArray⟩) ++ ⟨#[32]⟩)] W (fun e w' => ∃ ad c, e = .returned (.tuple #[.agg #[.int .u8 0, .int .i64 n, .int .i64 0, .slice ad 0 c], .int .i64 0]) ∧ Below W.heap.size W w') from by
        rw [e3]; exact (Parse_calls ([98, 99, 97, 115, 116, 32] ++ s ++ [32]) (by simp; omega) W (hT.below h)).mono fun e w' ⟨a1, a2⟩ => (by
          rw [if_neg (by simp; omega), n3] at a2
          obtain ⟨M, a3, a4⟩ := a2
          rw [if_pos rfl] at a4
          obtain ⟨b, c, cs, t, fr, rfl, _⟩ := a4
          exact ⟨_, c, a3, a1⟩)))
      have hv : numV s = (n : Int) := by unfold numV; rw [hn]
      rw [hv] at HL
      have hn0 : ((n : Int) < 0) = False := by simp
      have hzz : (⟨s.toArray⟩ : ByteArray).size ≤ 60 := by omega
      clear n1 n2 n3 ee e3 hn hv hT haw h60 hz hs h2
      simp only [str] at HL ⊢
      generalize (⟨s.toArray⟩ : ByteArray) = S at *
      go_enter Tryz.func8, Tryz.ntmps8
      go_wp2_with (go_at_call 37; refine HA0.out.mono ?_; rintro e w1 ⟨rfl, hb⟩; have HB1 := Aside0.mk hb; clear hb)
      go_loop [3] (fun i => ∃ k : Nat, k ≤ S.size ∧ i = .int .i64 k) (fun i => S.size - (intOf i).toNat)
      case atStart => exact ⟨0, Nat.zero_le _, rfl⟩
      case round =>
        obtain ⟨k, hk, rfl⟩ := hrel
        by_cases hlt : k < S.size
        · have hq := HG.out k hlt
          have hlt' : (k : Int) < (S.size : Int) := by omega
          go_wp2
          exact ⟨⟨k + 1, by omega, by simp⟩, by simp [intOf]; omega⟩
        · obtain rfl : k = S.size := by omega
          go_wp2_with (first
            | (go_at_call 38; with_reducible refine (HP1.out _ HB1.out).mono ?_; rintro e w2 ⟨rfl, hb⟩; have HB2 := Aside0.mk (below_trans HB1.out hb); clear hb)
            | (go_at_call 38; with_reducible refine (HP2.out _ (HB2.out.alloc HB2.out.size _)).mono ?_; rintro e w3 ⟨rfl, hb⟩; obtain ⟨b1, b2, b3⟩ := below_box hb; have HB3 := Aside0.mk (below_trans HB2.out b1); have HX3 := Aside0.mk b2; clear hb b1 b2 b3)
            | (go_at_call 38; with_reducible refine (HP3.out _ (HB3.out.alloc HB3.out.size _)).mono ?_; rintro e w4 ⟨ad, c, rfl, hb⟩; obtain ⟨b1, b2, b3⟩ := below_box hb; have HB4 := Aside0.mk (below_trans HB3.out b1); have HX4 := Aside0.mk (k_below HX3.out b1); have HY4 := Aside0.mk b2; have hx1 := fun o => (k_cells (k_alloc HX4.out o)).2.1; have hy2 := fun o => (k_cells (k_alloc HY4.out o)).2.2.1; clear hb b1 b2 b3)
            | (go_at_call 42; refine (HL.out _).mono ?_; rintro e w5 ⟨rfl, rfl⟩))
          go_ret
          exact ⟨rfl, HB4.out.alloc HB4.out.size _⟩
  · have hl : (a ++ 32 :: r).length = a.length + r.length + 1 := by simp; omega
    have HG := Aside0.mk (fun (k : Nat) (hk : k < (⟨(a ++ 32 :: r).toArray⟩ : ByteArray).size) (hka : k < a.length) => (show (((⟨(a ++ 32 :: r).toArray⟩ : ByteArray)[k].toNat : Int) == 32) = false from by
      rw [str_get _ k hk (by omega), List.getElem_append_left hka]; exact ne32 _ (h2 _ (List.getElem_mem _))))
    have HE := Aside0.mk (fun (hk : a.length < (⟨(a ++ 32 :: r).toArray⟩ : ByteArray).size) => (show (((⟨(a ++ 32 :: r).toArray⟩ : ByteArray)[a.length].toNat : Int) == 32) = true from by
      rw [str_get _ _ hk (by omega), List.getElem_append_right (Nat.le_refl _)]; simp))
    have hlt0 : a.length < (⟨(a ++ 32 :: r).toArray⟩ : ByteArray).size := by omega
    have hzz : (⟨(a ++ 32 :: r).toArray⟩ : ByteArray).size ≤ 60 := by omega
    simp only [str]
    clear hz hl hs hT haw h60 h2
    generalize (⟨(a ++ 32 :: r).toArray⟩ : ByteArray) = S at *
    generalize a.length = n at *
    go_enter Tryz.func8, Tryz.ntmps8
    go_wp2_with (go_at_call 37; refine HA0.out.mono ?_; rintro e w1 ⟨rfl, hb⟩; have HB1 := Aside0.mk hb; clear hb)
    go_loop [3] (fun i => ∃ k : Nat, k ≤ n ∧ i = .int .i64 k) (fun i => n - (intOf i).toNat)
    case atStart => exact ⟨0, Nat.zero_le _, rfl⟩
    case round =>
      obtain ⟨k, hk, rfl⟩ := hrel
      have hlt' : (k : Int) < (S.size : Int) := by omega
      by_cases hlt : k < n
      · have hq := HG.out k (by omega) hlt
        go_wp2
        exact ⟨⟨k + 1, by omega, by simp⟩, by simp [intOf]; omega⟩
      · obtain rfl : k = n := by omega
        have hq := HE.out hlt0
        go_wp2
        go_ret
        exact ⟨rfl, HB1.out⟩
end Go.Proofs.YtefleapekgbpcaaGreatDoor.Shl
