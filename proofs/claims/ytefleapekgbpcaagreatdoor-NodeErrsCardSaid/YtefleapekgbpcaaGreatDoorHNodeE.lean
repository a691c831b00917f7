/- folkmootlaw18.NodeErrs: the walk. -/
import Derived.Test.YtefleapekgbpcaaGreatDoorHNewD
import Derived.Test.YtefleapekgbpcaaGreatDoorHAwake18
namespace Go.Proofs.YtefleapekgbpcaaGreatDoor.Nw
open Go.RowKit Go.Aex
set_option linter.unusedVariables false
set_option linter.unusedSimpArgs false
noncomputable def E1 : Env := env Aexd.nTy Aexd.nFn Aexd.tyT Aexd.fnT
theorem tab1 : Tab E1 Tryz.prog := tab_of Aexd.tys Aexd.fns (by kernel_rfl)
theorem fst_some {o : Option (AV × St)} {v : AV} (h : o.map Prod.fst = some v) : ∃ s', o = some (v, s') := by
  cases o with
  | none => cases h
  | some p => obtain ⟨u, s'⟩ := p; cases h; exact ⟨s', rfl⟩
theorem below_step {w w1 w2 : World} (h : Below w.heap.size w w1) (k : Below w1.heap.size w1 w2) : Below w.heap.size w w2 := h.trans (k.mono h.size)
/-- A call that the executor runs whole. -/
theorem zcall {g : Nat} {args : List AV} {ARGS : List Value} {v : AV} {V : Value} (h : (q_callA E1 1001 false g args ⟨.nil, 0, Ks.emp, Ks.emp⟩).map Prod.fst = some v) (hv : conc ren0 v = some V) (hA : concL ren0 args = some ARGS) (w : World) :
    Calls Tryz.prog g ARGS.toArray w (fun e w' => e = .returned V ∧ Below w.heap.size w w') := by
  rw [q_callA_eq] at h
  obtain ⟨s', h⟩ := fst_some h
  exact closed_run tab1 h hv hA w (fun g m hm => by cases hm)
theorem zBcast (m : Value) (w : World) : Calls Tryz.prog 22 #[.pointer none, m] w (fun e w' => e = .returned (.int .i64 6) ∧ Below w.heap.size w w') :=
  zcall (args := [.nilptr, .raw m]) (v := .int .i64 (.ofNat 6)) (by kernel_rfl) (by simp [conc]) (by simp [concL, conc]) w
theorem zTick (w : World) : Calls Tryz.prog 23 #[.pointer none] w (fun e w' => e = .returned (.int .i64 6) ∧ Below w.heap.size w w') :=
  zcall (args := [.nilptr]) (v := .int .i64 (.ofNat 6)) (by kernel_rfl) (by simp [conc]) (by simp [concL, conc]) w
theorem zIn (m : Value) (w : World) : Calls Tryz.prog 24 #[.pointer none, m] w (fun e w' => e = .returned (.int .i64 6) ∧ Below w.heap.size w w') :=
  zcall (args := [.nilptr, .raw m]) (v := .int .i64 (.ofNat 6)) (by kernel_rfl) (by simp [conc]) (by simp [concL, conc]) w
theorem zOut (w : World) : Calls Tryz.prog 25 #[.pointer none] w (fun e w' => e = .returned (.slice none 0 0) ∧ Below w.heap.size w w') :=
  zcall (args := [.nilptr]) (v := .nilslice) (by kernel_rfl) (by simp [conc]) (by simp [concL, conc]) w
theorem zSent (w : World) : Calls Tryz.prog 26 #[.pointer none] w (fun e w' => e = .returned (.slice none 0 0) ∧ Below w.heap.size w w') :=
  zcall (args := [.nilptr]) (v := .nilslice) (by kernel_rfl) (by simp [conc]) (by simp [concL, conc]) w
theorem zGot (w : World) : Calls Tryz.prog 27 #[.pointer none] w (fun e w' => e = .returned (.slice none 0 0) ∧ Below w.heap.size w w') :=
  zcall (args := [.nilptr]) (v := .nilslice) (by kernel_rfl) (by simp [conc]) (by simp [concL, conc]) w
theorem zTrace (w : World) : Calls Tryz.prog 28 #[.pointer none] w (fun e w' => e = .returned (.slice none 0 0) ∧ Below w.heap.size w w') :=
  zcall (args := [.nilptr]) (v := .nilslice) (by kernel_rfl) (by simp [conc]) (by simp [concL, conc]) w
theorem zView (w : World) : Calls Tryz.prog 29 #[.pointer none] w (fun e w' => e = .returned (.agg #[.int .u64 0, .int .i64 0, .int .u16 0]) ∧ Below w.heap.size w w') :=
  zcall (args := [.nilptr]) (v := .agg [.int .u64 (.ofNat 0), .int .i64 (.ofNat 0), .int .u16 (.ofNat 0)]) (by kernel_rfl) (by simp [conc, concL]) (by simp [concL, conc]) w
theorem zOpen (w : World) : Calls Tryz.prog 30 #[.pointer none] w (fun e w' => e = .returned (.bool false) ∧ Below w.heap.size w w') :=
  zcall (args := [.nilptr]) (v := .bool false) (by kernel_rfl) (by simp [conc]) (by simp [concL, conc]) w
theorem zEst (w : World) : Calls Tryz.prog 31 #[.pointer none] w (fun e w' => e = .returned (.int .u16 0) ∧ Below w.heap.size w w') :=
  zcall (args := [.nilptr]) (v := .int .u16 (.ofNat 0)) (by kernel_rfl) (by simp [conc]) (by simp [concL, conc]) w
theorem zSummary (w : World) : Calls Tryz.prog 33 #[.pointer none] w (fun e w' => e = .returned (.agg #[.slice none 0 0, .slice none 0 0, .int .i64 0, .int .u64 0, .int .i64 0]) ∧ Below w.heap.size w w') :=
  zcall (args := [.nilptr]) (v := .agg [.nilslice, .nilslice, .int .i64 (.ofNat 0), .int .u64 (.ofNat 0), .int .i64 (.ofNat 0)]) (by kernel_rfl) (by simp [conc, concL]) (by simp [concL, conc]) w
theorem zAlike (w : World) : Calls Tryz.prog 32 #[.agg #[.slice none 0 0, .slice none 0 0, .int .i64 0, .int .u64 0, .int .i64 0], .agg #[.slice none 0 0, .slice none 0 0, .int .i64 0, .int .u64 0, .int .i64 0]] w (fun e w' => e = .returned (.bool true) ∧ Below w.heap.size w w') :=
  zcall (args := [.agg [.nilslice, .nilslice, .int .i64 (.ofNat 0), .int .u64 (.ofNat 0), .int .i64 (.ofNat 0)], .agg [.nilslice, .nilslice, .int .i64 (.ofNat 0), .int .u64 (.ofNat 0), .int .i64 (.ofNat 0)]]) (v := .bool true) (by kernel_rfl) (by simp [conc]) (by simp [concL, conc]) w
end Go.Proofs.YtefleapekgbpcaaGreatDoor.Nw
