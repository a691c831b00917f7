/- An operation of the executor's is the machine's. -/
import Derived.Test.YtefleapekgbpcaaGreatDoorAexO
set_option linter.unusedVariables false
set_option linter.unusedSimpArgs false
namespace Go.Aex
open Go.RowKit
section
variable {E : Env} {P : Program} {B : Nat} {w0 w : World} {ρ : Ren} {s s' : St}
theorem ofV1_conc (v : Value) : conc ρ (ofV1 v) = some v := by
  unfold ofV1
  split <;> simp [conc]
theorem ofV1_concL : ∀ (l : List Value), concL ρ (l.map ofV1) = some l
  | [] => by simp [concL]
  | v :: l => concL_mk (ofV1_conc v) (ofV1_concL l)
theorem ofV_conc (v : Value) : conc ρ (ofV v) = some v := by
  unfold ofV
  split
  · simp [conc, ofV1_concL]
  · rename_i cs
    split
    · rename_i h
      have : cs = #[] := by cases cs; simp_all
      subst this; simp [conc, concL]
    · simp [conc]
  · exact ofV1_conc _
theorem ev_conc {n : Nat} {t : T AV} {a : Act} (ht : TRel ρ n t a.tmps) (x : Operand) : conc ρ (ev t x) = some (a.eval x) := by
  cases x with
  | tmp i => exact ht.2 i
  | const v => exact ofV_conc v
  | global g => simp [ev, conc, Act.eval]
  | func f => simp [ev, conc, concL, Act.eval]
theorem evs_conc {n : Nat} {t : T AV} {a : Act} (ht : TRel ρ n t a.tmps) : ∀ (l : List Operand), concL ρ (evs t l) = some (l.map a.eval)
  | [] => by simp [evs, concL]
  | x :: l => concL_mk (ev_conc ht x) (evs_conc ht l)
theorem optEv_conc {n : Nat} {t : T AV} {a : Act} (ht : TRel ρ n t a.tmps) (x : Option Operand) : OptC ρ (optEv t x) (x.map a.eval) := by
  cases x with
  | none => trivial
  | some x => exact ev_conc ht x
theorem parts_conc {n : Nat} {t : T AV} {a : Act} (ht : TRel ρ n t a.tmps) : ∀ (l : List (Nat × Operand)), PartsC ρ (partsA t l) (l.map fun (i, x) => (i, a.eval x))
  | [] => trivial
  | (i, x) :: l => ⟨rfl, ev_conc ht x, parts_conc ht l⟩
/-- What an operation comes to. -/
def Opers (P : Program) (B : Nat) (w0 : World) (ρ : Ren) (s s' : St) (w : World) (sem : Sem Next) (v : AV) : Prop :=
  ∃ ρ' V w', (sem.run P w = .ok (.value V) w' ∨ (sem.run P w = .ok .skip w' ∧ V = undef)) ∧ Ext ρ ρ' s.nx s'.nx ∧ Rel B w0 ρ' s'.h.get w' ∧ conc ρ' v = some V
theorem Does.opers {sem : Sem Value} {v : AV} (h : Does P B w0 ρ s s' w sem v) : Opers P B w0 ρ s s' w (do pure (.value (← sem))) v := by
  obtain ⟨ρ', V, w', h1, h2, h3, h4⟩ := h
  exact ⟨ρ', V, w', .inl (by simp [h1]), h2, h3, h4⟩
theorem undef_conc {ρ : Ren} : conc ρ undefA = some undef := by simp [undefA, conc, concL, undef]
def isCall : Op → Bool
  | .call c => match c.callee with
    | .builtin _ => false
    | _ => true
  | .select _ _ => true
  | _ => false
theorem op_snd (hT : Tab E P) {cf : Bool → Nat → List AV → M AV} {n : Nat} {t : T AV} {a : Act} {o : Oper} {v : AV} (hr : Rel B w0 ρ s.h.get w) (hfree : ∀ k, s.nx ≤ k → k < s'.nx → ρ k = none) (ht : TRel ρ n t a.tmps) (hc : isCall o.op = false) (h : Run (opA E cf t o.op) s v s') :
    Opers P B w0 ρ s s' w (execOp a.eval o) v := by
  have he := ev_conc ht
  have pureV : ∀ {u : AV} {U : Value}, Run (ret u) s v s' → conc ρ u = some U → (execOp a.eval o = pure (.value U)) → Opers P B w0 ρ s s' w (execOp a.eval o) v := by
    intro u U hh hu heq
    obtain ⟨rfl, rfl⟩ := ret_some hh
    exact ⟨ρ, U, w, .inl (by rw [heq]; rfl), Ext.refl _ _ _, hr, hu⟩
  unfold opA at h
  split at h
  case h_1 x hop => exact pureV h (he x) (by simp [execOp, hop])
  case h_2 x hop => exact pureV h (he x) (by simp [execOp, hop])
  case h_3 c x y hop =>
    have hcc := he c
    split at h
    · rename_i hb
      rw [hb] at hcc
      have := bool_conc hcc
      refine pureV h (he x) ?_
      simp [execOp, hop, this, asBool]
    · rename_i hb
      rw [hb] at hcc
      have := bool_conc hcc
      refine pureV h (he y) ?_
      simp [execOp, hop, this, asBool]
    · exact (fail_some h).elim
  case h_4 el hop =>
    replace h := bnd_some h; obtain ⟨ti, s1, g1, h⟩ := h
    obtain ⟨hti, rfl⟩ := tyOf_some g1
    have := (alloc_snd hT hti hr hfree h).opers
    simpa [execOp, hop] using this
  case h_5 el x hop =>
    have := (box_snd (P := P) el hr hfree (he x) h).opers
    simpa [execOp, hop] using this
  case h_6 ty ps hop =>
    have := (build_snd hT (PS := ps.map fun (i, x) => (i, a.eval x)) hr (by simpa using parts_conc ht ps.toList) h).opers
    simpa [execOp, hop] using this
  case h_7 ty len ps hop =>
    have := (buildSlice_snd hT (PS := ps.map fun (i, x) => (i, a.eval x)) hr hfree (by simpa using parts_conc ht ps.toList) h).opers
    simpa [execOp, hop] using this
  case h_8 ty x hop =>
    obtain ⟨hrd, V, hV, hrun⟩ := load_snd hT hr (he x) h
    exact ⟨ρ, V, w, .inl (by simp [execOp, hop, hrun]), Ext.refl _ _ _, by rw [hrd.1]; exact hr, hV⟩
  case h_9 ty x y hop =>
    replace h := bnd_some h; obtain ⟨u, s1, g1, h⟩ := h
    obtain ⟨w', hrun, hnx, hrel⟩ := store_snd hT hr (he x) (he y) g1
    obtain ⟨rfl, rfl⟩ := ret_some h
    exact ⟨ρ, undef, w', .inr ⟨by simp [execOp, hop, hrun], rfl⟩, Ext.refl _ _ _, hrel, undef_conc⟩
  case h_10 x hop =>
    have hx := he x
    split at h
    · rename_i i o' hb
      rw [hb] at hx
      obtain ⟨p, hp, hX⟩ := ptr_conc hx
      refine pureV (U := a.eval x) h hx ?_
      simp [execOp, hop, hX]
    · rename_i f x1 x2 hb
      split at h
      · rename_i g
        rw [hb] at hx
        refine pureV (U := a.eval x) h hx ?_
        have hx' := hx
        simp only [conc] at hx'
        split at hx'
        · rename_i u v hu hv
          cases hX : a.eval x <;> rw [hX] at hx' <;> first | (cases hx'; done) | skip
          cases hx'
          simp [execOp, hop, hX]
        · cases hx'
      · exact (fail_some h).elim
    · rename_i i hb
      rw [hb] at hx
      refine pureV (U := a.eval x) h hx ?_
      have hx' := hx
      simp only [conc] at hx'
      cases hp : ρ i with
      | none => rw [hp] at hx'; cases hx'
      | some p =>
        rw [hp] at hx'
        simp only [Option.map_some, Option.some.injEq] at hx'
        simp [execOp, hop, ← hx']
    · exact (fail_some h).elim
  case h_11 op ty x y ty2 hop =>
    have := (bin_snd (P := P) hT (ox := x) (oy := y) hr (he x) (he y) h).opers
    simpa [execOp, hop, binSem] using this
  case h_12 op ty x hop =>
    have := (un_snd (P := P) hr (he x) h).opers
    simpa [execOp, hop] using this
  case h_13 sT dT x hop =>
    have := (conv_snd (P := P) hT hr hfree (he x) h).opers
    simpa [execOp, hop] using this
  case h_14 f x y hop =>
    refine pureV (U := .func f (x.map a.eval) (y.map a.eval)) h ?_ ?_
    · simp only [conc, evs_conc ht]
      have e1 : (x.toList.map a.eval).toArray = x.map a.eval := by apply Array.ext'; simp
      have e2 : (y.toList.map a.eval).toArray = y.map a.eval := by apply Array.ext'; simp
      rw [e1, e2]
    · simp [execOp, hop, Instr.makeFunc]
  case h_15 ty hop =>
    replace h := bnd_some h; obtain ⟨i, s1, g1, h⟩ := h
    obtain ⟨rfl, rfl⟩ := ret_some h
    have := (makeMap_snd (P := P) (t := ty) (v := undefA) hr hfree g1).opers
    simpa [execOp, hop] using this
  case h_16 ty x hop =>
    have := (makeChan_snd (P := P) hT hr hfree (he x) h).opers
    simpa [execOp, hop] using this
  case h_17 ty x y hop =>
    have := (makeSlice_snd (P := P) hT hr hfree (he x) (he y) h).opers
    simpa [execOp, hop] using this
  case h_18 ty x lo hi mx hop =>
    have := (slice_snd (P := P) hT hr (he x) (optEv_conc ht lo) (optEv_conc ht hi) (optEv_conc ht mx) h).opers
    simpa [execOp, hop] using this
  case h_19 ty x f hop =>
    have := (fieldAddr_snd (P := P) hT hr (he x) h).opers
    simpa [execOp, hop] using this
  case h_20 ty x f hop =>
    have := (field_snd (P := P) hT hr (he x) h).opers
    simpa [execOp, hop] using this
  case h_21 ty x i hop =>
    have := (indexAddr_snd (P := P) hT hr (he x) (he i) h).opers
    simpa [execOp, hop] using this
  case h_22 ty x i hop =>
    have := (index_snd (P := P) hT hr (he x) (he i) h).opers
    simpa [execOp, hop] using this
  case h_23 ty x i ok hop =>
    have := (lookup_snd (P := P) hT hr (he x) (he i) h).opers
    simpa [execOp, hop] using this
  case h_24 ty m k x hop =>
    replace h := bnd_some h; obtain ⟨u, s1, g1, h⟩ := h
    obtain ⟨w', hrun, hnx, hrel⟩ := mapUpdate_snd (P := P) hT hr (he m) (he k) (he x) g1
    obtain ⟨rfl, rfl⟩ := ret_some h
    exact ⟨ρ, undef, w', .inr ⟨by simp [execOp, hop, hrun], rfl⟩, Ext.refl _ _ _, hrel, undef_conc⟩
  case h_25 ty m k x hop =>
    replace h := bnd_some h; obtain ⟨u, s1, g1, h⟩ := h
    obtain ⟨w', hrun, hnx, hrel⟩ := mapUpdate_snd (P := P) hT hr (he m) (he k) (he x) g1
    obtain ⟨rfl, rfl⟩ := ret_some h
    exact ⟨ρ, undef, w', .inr ⟨by simp [execOp, hop, hrun], rfl⟩, Ext.refl _ _ _, hrel, undef_conc⟩
  case h_26 x i hop =>
    have hx := he x
    split at h
    · rename_i l hb
      obtain ⟨hl, rfl⟩ := ofOpt_some h
      rw [hb] at hx
      simp only [conc] at hx
      cases hc2 : concL ρ l with
      | none => rw [hc2] at hx; cases hx
      | some L =>
        rw [hc2] at hx
        simp only [Option.map_some, Option.some.injEq] at hx
        rw [nth_eq] at hl
        obtain ⟨V, hV, hg⟩ := concL_get hc2 i v hl
        refine ⟨ρ, V, w, .inl ?_, Ext.refl _ _ _, hr, hV⟩
        have hg' : L.toArray[i]? = some V := by simpa using hg
        simp [execOp, hop, ← hx, Instr.extract, hg']
    · exact (fail_some h).elim
  case h_27 c hop =>
    have hargs := evs_conc ht c.args.toList
    split at h
    · rename_i b hb
      unfold builtinA at h
      split at h
      · rename_i tA tB x1 x2 h1 h2
        rw [h2] at hargs
        obtain ⟨X1, y1, hX1, hy1, e1⟩ := concL_cons hargs
        obtain ⟨X2, y2, hX2, hy2, e2⟩ := concL_cons hy1
        simp only [concL] at hy2; cases hy2
        have ea : c.args.map a.eval = #[X1, X2] := by
          apply Array.ext'
          rw [Array.toList_map, e1, e2]
        have et : c.argTypes = #[tA, tB] := by apply Array.ext'; rw [h1]
        have := (append_snd (P := P) hT o.type hr hfree hX1 hX2 h).opers
        simpa [execOp, hop, resolve, hb, invoke, builtin, ea, et] using this
      · rename_i tA x1 h1 h2
        rw [h2] at hargs
        obtain ⟨X1, y1, hX1, hy1, e1⟩ := concL_cons hargs
        simp only [concL] at hy1; cases hy1
        have ea : c.args.map a.eval = #[X1] := by
          apply Array.ext'
          rw [Array.toList_map, e1]
        have et : c.argTypes = #[tA] := by apply Array.ext'; rw [h1]
        have := (len_snd (P := P) (ty := o.type) (rest := #[]) hT hr hX1 h #[tA] #[X1] rfl rfl).opers
        simpa [execOp, hop, resolve, hb, invoke, builtin, ea, et] using this
      · rename_i tA tB x1 x2 h1 h2
        rw [h2] at hargs
        obtain ⟨X1, y1, hX1, hy1, e1⟩ := concL_cons hargs
        obtain ⟨X2, y2, hX2, hy2, e2⟩ := concL_cons hy1
        simp only [concL] at hy2; cases hy2
        have ea : c.args.map a.eval = #[X1, X2] := by
          apply Array.ext'
          rw [Array.toList_map, e1, e2]
        have et : c.argTypes = #[tA, tB] := by apply Array.ext'; rw [h1]
        have := (copy_snd (P := P) (t2 := tB) (ty := o.type) hT hr hX1 hX2 h).opers
        simpa [execOp, hop, resolve, hb, invoke, builtin, ea, et] using this
      · rename_i tA x1 h1 h2
        rw [h2] at hargs
        obtain ⟨X1, y1, hX1, hy1, e1⟩ := concL_cons hargs
        simp only [concL] at hy1; cases hy1
        have ea : c.args.map a.eval = #[X1] := by
          apply Array.ext'
          rw [Array.toList_map, e1]
        have et : c.argTypes = #[tA] := by apply Array.ext'; rw [h1]
        have := (clear_snd (P := P) (ty := o.type) hT hr hX1 h).opers
        simpa [execOp, hop, resolve, hb, invoke, builtin, ea, et] using this
      · rename_i tA tB x1 x2 h1 h2
        rw [h2] at hargs
        obtain ⟨X1, y1, hX1, hy1, e1⟩ := concL_cons hargs
        obtain ⟨X2, y2, hX2, hy2, e2⟩ := concL_cons hy1
        simp only [concL] at hy2; cases hy2
        have ea : c.args.map a.eval = #[X1, X2] := by
          apply Array.ext'
          rw [Array.toList_map, e1, e2]
        have et : c.argTypes = #[tA, tB] := by apply Array.ext'; rw [h1]
        have := (delete_snd (P := P) (t2 := tB) (ty := o.type) hT hr hX1 hX2 h).opers
        simpa [execOp, hop, resolve, hb, invoke, builtin, ea, et] using this
      · rename_i x1 l h2
        rw [h2] at hargs
        obtain ⟨X1, y1, hX1, hy1, e1⟩ := concL_cons hargs
        obtain ⟨hl, rfl⟩ := ofOpt_some h
        obtain ⟨V, hV, hrun⟩ := maxF_snd (P := P) (w := w) l y1 x1 v X1 hX1 hy1 hl
        have ea : (c.args.map a.eval).toList = X1 :: y1 := by rw [Array.toList_map, e1]
        refine ⟨ρ, V, w, .inl ?_, Ext.refl _ _ _, hr, hV⟩
        simp only [if_true] at hrun
        simp [execOp, hop, resolve, hb, invoke, builtin, Builtin.max_, e1, hrun]
      · rename_i x1 l h2
        rw [h2] at hargs
        obtain ⟨X1, y1, hX1, hy1, e1⟩ := concL_cons hargs
        obtain ⟨hl, rfl⟩ := ofOpt_some h
        obtain ⟨V, hV, hrun⟩ := maxF_snd (P := P) (w := w) l y1 x1 v X1 hX1 hy1 hl
        refine ⟨ρ, V, w, .inl ?_, Ext.refl _ _ _, hr, hV⟩
        simp only [Bool.false_eq_true, if_false] at hrun
        simp [execOp, hop, resolve, hb, invoke, builtin, Builtin.min_, e1, hrun]
      · exact (fail_some h).elim
    · rename_i f hb
      simp [isCall, hop, hb] at hc
    · rename_i hb1 hb2
      cases hcal : c.callee with
      | builtin b => exact absurd hcal (hb1 b)
      | value f => exact absurd hcal (hb2 f)
      | invoke r m => simp [isCall, hop, hcal] at hc
  case h_28 cs bl hop => simp [isCall, hop] at hc
  case h_29 ty x hop =>
    have := (arrayAt_snd (P := P) hT hr (he x) h).opers
    simpa [execOp, hop] using this
  case h_30 => exact (fail_some h).elim
end
end Go.Aex
