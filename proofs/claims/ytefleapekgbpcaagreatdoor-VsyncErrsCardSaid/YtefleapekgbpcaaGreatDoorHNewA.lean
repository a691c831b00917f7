/- Form, With, and a new wheel with one timer: contracts. -/
import Derived.Test.YtefleapekgbpcaaGreatDoorHAexd
import Derived.WalkKit
import Derived.Below
namespace Go.Proofs.YtefleapekgbpcaaGreatDoor.Nw
open Go.RowKit Go.Aex
set_option linter.unusedVariables false
set_option linter.unusedSimpArgs false
structure Aside0 (p : Prop) : Prop where mk :: (out : p)
/-- Can nodes work so? -/
def formC (a b c d e f : Int) : Bool := decide (1 ≤ a) && (decide (a ≤ 16) && (decide (1 ≤ b) && (decide (b < c) && (decide (c ≤ 1000) && (decide (1 ≤ d) && (decide (d ≤ 32) && (decide (1 ≤ e) && (decide (e ≤ 256) && (decide (1 ≤ f) && decide (f ≤ 256))))))))))
set_option maxHeartbeats 8000000 in
set_option maxRecDepth 100000 in
theorem Form_calls (a b c d e f : Int) (w : World) :
    Calls Tryz.prog 129 #[.agg #[.int .i64 a, .int .i64 b, .int .i64 c, .int .i64 d, .int .i64 e, .int .i64 f]] w fun e' w' => e' = .returned (.bool (formC a b c d e f)) ∧ Below w.heap.size w w' := by
  have HB := Aside0.mk (Below.refl w.heap.size w)
  unfold formC
  cases h1 : decide (1 ≤ a) with
  | false =>
    go_enter Tryz.func129, Tryz.ntmps129
    go_wp2
    go_ret
    exact ⟨rfl, Below.alloc HB.out (Nat.le_refl _) _⟩
  | true =>
    cases h2 : decide (a ≤ 16) with
    | false =>
      go_enter Tryz.func129, Tryz.ntmps129
      go_wp2
      go_ret
      exact ⟨rfl, Below.alloc HB.out (Nat.le_refl _) _⟩
    | true =>
      cases h3 : decide (1 ≤ b) with
      | false =>
        go_enter Tryz.func129, Tryz.ntmps129
        go_wp2
        go_ret
        exact ⟨rfl, Below.alloc HB.out (Nat.le_refl _) _⟩
      | true =>
        cases h4 : decide (b < c) with
        | false =>
          go_enter Tryz.func129, Tryz.ntmps129
          go_wp2
          go_ret
          exact ⟨rfl, Below.alloc HB.out (Nat.le_refl _) _⟩
        | true =>
          cases h5 : decide (c ≤ 1000) with
          | false =>
            go_enter Tryz.func129, Tryz.ntmps129
            go_wp2
            go_ret
            exact ⟨rfl, Below.alloc HB.out (Nat.le_refl _) _⟩
          | true =>
            cases h6 : decide (1 ≤ d) with
            | false =>
              go_enter Tryz.func129, Tryz.ntmps129
              go_wp2
              go_ret
              exact ⟨rfl, Below.alloc HB.out (Nat.le_refl _) _⟩
            | true =>
              cases h7 : decide (d ≤ 32) with
              | false =>
                go_enter Tryz.func129, Tryz.ntmps129
                go_wp2
                go_ret
                exact ⟨rfl, Below.alloc HB.out (Nat.le_refl _) _⟩
              | true =>
                cases h8 : decide (1 ≤ e) with
                | false =>
                  go_enter Tryz.func129, Tryz.ntmps129
                  go_wp2
                  go_ret
                  exact ⟨rfl, Below.alloc HB.out (Nat.le_refl _) _⟩
                | true =>
                  cases h9 : decide (e ≤ 256) with
                  | false =>
                    go_enter Tryz.func129, Tryz.ntmps129
                    go_wp2
                    go_ret
                    exact ⟨rfl, Below.alloc HB.out (Nat.le_refl _) _⟩
                  | true =>
                    cases h10 : decide (1 ≤ f) with
                    | false =>
                      go_enter Tryz.func129, Tryz.ntmps129
                      go_wp2
                      go_ret
                      exact ⟨rfl, Below.alloc HB.out (Nat.le_refl _) _⟩
                    | true =>
                      cases h11 : decide (f ≤ 256) with
                      | false =>
                        go_enter Tryz.func129, Tryz.ntmps129
                        go_wp2
                        go_ret
                        exact ⟨rfl, Below.alloc HB.out (Nat.le_refl _) _⟩
                      | true =>
                        go_enter Tryz.func129, Tryz.ntmps129
                        go_wp2
                        go_ret
                        exact ⟨rfl, Below.alloc HB.out (Nat.le_refl _) _⟩
set_option maxHeartbeats 8000000 in
theorem With_calls (k : Nat) (hk : k < 16) (w : World) : Calls Tryz.prog 95 #[.int .u16 0, .int .i64 k] w fun e' w' => (∃ r, e' = .returned (.int .u16 r)) ∧ w' = w := by
  have h1 : decide ((0 : Int) ≤ (k : Int)) = true := by simp
  have h2 : decide ((k : Int) < 16) = true := by simp; omega
  go_enter Tryz.func95, Tryz.ntmps95
  go_wp2
  go_ret
  exact ⟨⟨_, rfl⟩, rfl⟩
/-- A new wheel, and one timer armed: what the executor says. -/
noncomputable def wheelRun : Bool := match q_callA Aexd.E0 1001 false 130 [.int .u64 0] ⟨.nil, 0, Ks.emp, Ks.emp⟩ with
  | some (.tuple [.ptr i o, .int .i64 (.ofNat 0)], s1) => match q_callA Aexd.E0 1001 false 91 [.ptr i o, .int .i64 (.ofNat 16), .int .u64 (.ofNat 1)] s1 with
    | some (.int .i64 (.ofNat _), _) => true
    | _ => false
  | _ => false
theorem wheelRun_true : wheelRun = true := by kernel_rfl
theorem wheelRun_some : ∃ i o s1 n s2, callA Aexd.E0 1001 false 130 [.int .u64 0] ⟨.nil, 0, Ks.emp, Ks.emp⟩ = some (.tuple [.ptr i o, .int .i64 (.ofNat 0)], s1) ∧ callA Aexd.E0 1001 false 91 [.ptr i o, .int .i64 (.ofNat 16), .int .u64 (.ofNat 1)] s1 = some (.int .i64 (.ofNat n), s2) := by
  have h := wheelRun_true
  unfold wheelRun at h
  rw [q_callA_eq] at h
  split at h
  · rename_i i o s1 h1
    split at h
    · rename_i n s2 h2
      exact ⟨i, o, s1, n, s2, h1, h2⟩
    · cases h
  · cases h
end Go.Proofs.YtefleapekgbpcaaGreatDoor.Nw
