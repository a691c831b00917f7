/- A region, in whatever order. -/
import Derived.Test.YtefleapekgbpcaaGreatDoorAexR
set_option linter.unusedVariables false
set_option linter.unusedSimpArgs false
namespace Go.Aex
open Go.RowKit Go.Conc
section
variable {E : Env} {P : Program} {B : Nat} {w0 w : World} {ρ : Ren} {s s' : St} {b : Frame} {a : Act} {k : List Item} {cs : List Frame} {ops : Array Oper}
theorem tmps_get {n : Nat} {t : T AV} (ht : TRel ρ n t a.tmps) (d : Nat) : conc ρ (getA t d) = some (a.tmps.getD d undef) := ht.2 d
theorem conc_bool {u : AV} {c : Bool} (h : conc ρ u = some (.bool c)) : u = .bool c ∨ (∃ v, u = .raw v) := by
  cases u <;> first
    | exact .inr ⟨_, rfl⟩
    | (simp [conc] at h; done)
    | (simp [conc] at h; subst h; exact .inl rfl)
    | (rename_i cap; cases cap <;> simp [conc] at h; done)
    | (simp only [conc] at h; split at h <;> simp at h)
theorem wanted_snd {n : Nat} {t : T AV} {o : Oper} {c : Bool} (ht : TRel ρ n t a.tmps) (h : wantedA ops.toList t o = some c) : Region.wanted o (yielded ops a.tmps) = c := by
  unfold wantedA at h
  unfold Region.wanted
  cases hg : o.guard with
  | none => rw [hg] at h; simp only at h; cases h; rfl
  | some jw =>
    obtain ⟨j, want⟩ := jw
    rw [hg] at h
    simp only at h ⊢
    have hj : nth ops.toList j = ops[j]? := by rw [nth_eq]; simp
    rw [hj] at h
    cases ho : ops[j]? with
    | none =>
      rw [ho] at h; simp only at h; cases h
      simp [yielded, ho]
    | some oj =>
      rw [ho] at h; simp only at h
      cases hd : oj.dst with
      | none =>
        rw [hd] at h; simp only at h; cases h
        simp [yielded, ho, hd]
      | some d =>
        rw [hd] at h; simp only at h
        have hc := ht.2 d
        have hy : yielded ops a.tmps j = match a.tmps[d]? with | some (.bool b) => some b | _ => none := by
          simp only [yielded, ho, hd, Option.bind_some]
          rfl
        rw [hy]
        have hgd : a.tmps.getD d undef = (a.tmps[d]?).getD undef := by simp [Array.getD_eq_getD_getElem?]
        rw [hgd] at hc
        cases hA : getA t d with
        | bool x =>
          rw [hA] at h hc
          simp only [conc, Option.some.injEq] at hc
          cases ht2 : a.tmps[d]? with
          | none => rw [ht2] at hc; simp [undef] at hc
          | some V =>
            rw [ht2] at hc
            simp only [Option.getD_some] at hc
            subst hc
            cases x <;> cases want <;> simp at h <;> subst h <;> rfl
        | raw x => rw [hA] at h; simp at h
        | _ =>
          rw [hA] at h hc
          simp only at h
          cases h
          cases ht2 : a.tmps[d]? with
          | none => simp
          | some V =>
            rw [ht2] at hc
            simp only [Option.getD_some] at hc
            cases V <;> first
              | rfl
              | (rcases conc_bool hc with e | ⟨v, e⟩ <;> cases e)
theorem step_goes (hT : Tab E P) {cf : Bool → Nat → List AV → M AV} (hcf : CallsOk P B w0 cf) {n i : Nat} {rest : List Nat} {t : T AV} {o : Oper} {v : AV} (hr : Rel B w0 ρ s.h.get w) (hfree : ∀ k, s.nx ≤ k → k < s'.nx → ρ k = none) (ht : TRel ρ n t a.tmps)
    (ho : ops[i]? = some o) (h : Run (stepA E cf ops.toList t o) s v s') : Goes1 P B w0 ρ s s' w b a ops i rest k cs o.dst v := by
  unfold stepA at h
  split at h
  · rename_i hw
    exact op_goes hT hcf hr hfree ht ho (wanted_snd ht hw) h
  · rename_i hw
    obtain ⟨rfl, rfl⟩ := ret_some h
    have hw' := wanted_snd ht hw
    refine ⟨ρ, undef, w, .one ?_, Ext.refl _ _ _, hr, undef_conc⟩
    have := f_op_skip (P := P) (b := b) (a := a) (k := k) (cs := cs) (w := w) (ops := ops) (i := i) (rest := rest) (by simp [ho, hw'])
    rw [this, ho]; rfl
  · exact (fail_some h).elim
theorem put_snd {n : Nat} {t t' : T AV} {dst : Option Tmp} {v : AV} {V : Value} (ht : TRel ρ n t a.tmps) (hv : conc ρ v = some V) (h : Run (putA n t dst v) s t' s') : s = s' ∧ TRel ρ n t' (a.put dst V).tmps := by
  unfold putA at h
  split at h
  · obtain ⟨rfl, rfl⟩ := ret_some h; exact ⟨rfl, ht⟩
  · rename_i d
    split at h
    · rename_i hlt
      have hlt := blt_true hlt
      obtain ⟨rfl, rfl⟩ := ret_some h
      refine ⟨rfl, by simp [Act.put, ht.1], fun k => ?_⟩
      have hk := ht.2 k
      unfold getA at hk ⊢
      rw [T.get_set]
      by_cases e : k = d
      · subst e
        have hsz : k < a.tmps.size := by rw [ht.1]; exact hlt
        simp [Act.put, Array.getD_eq_getD_getElem?, hsz, hv]
      · rw [if_neg e]
        have : (a.tmps.setIfInBounds d V).getD k undef = a.tmps.getD k undef := by
          simp [Array.getD_eq_getD_getElem?, Array.getElem?_setIfInBounds, Ne.symm e]
        show _ = some ((a.tmps.setIfInBounds d V).getD k undef)
        rw [this]; exact hk
    · exact (fail_some h).elim
/-- A region whose order is the text's. -/
theorem seq_goes (hT : Tab E P) {cf : Bool → Nat → List AV → M AV} (hcf : CallsOk P B w0 cf) {n : Nat} : ∀ (l : List Oper) (i : Nat) (s s' : St) (ρ : Ren) (w : World) (a : Act) (t t' : T AV), (∀ j, l[j]? = ops[i + j]?) → Rel B w0 ρ s.h.get w → (∀ k, s.nx ≤ k → k < s'.nx → ρ k = none) → TRel ρ n t a.tmps →
    Run (seqA E cf n ops.toList l t) s t' s' → ∃ ρ' a' w', Steps P (lone (fat b a (.inRegion ops (List.range' i l.length) :: k)) cs w) (lone (fat b a' k) cs w') ∧ a'.defers = a.defers ∧ Ext ρ ρ' s.nx s'.nx ∧ Rel B w0 ρ' s'.h.get w' ∧ TRel ρ' n t' a'.tmps
  | [], i, s, s', ρ, w, a, t, t', hl, hr, hfree, ht, h => by
    unfold seqA at h
    obtain ⟨rfl, rfl⟩ := ret_some h
    exact ⟨ρ, a, w, .one f_region_end, rfl, Ext.refl _ _ _, hr, ht⟩
  | o :: l, i, s, s', ρ, w, a, t, t', hl, hr, hfree, ht, h => by
    unfold seqA at h
    replace h := bnd_some h; obtain ⟨v, s1, g1, h⟩ := h
    replace h := bnd_some h; obtain ⟨t1, s2, g2, h⟩ := h
    have hgood1 := (good_stepA E cf hcf.good ops.toList t o).mono g1
    have hgood2 := (good_putA n t o.dst v).mono g2
    have hgood3 := (good_seqA E cf hcf.good n ops.toList l t1).mono h
    have ho : ops[i]? = some o := by simpa using (hl 0).symm
    obtain ⟨ρ1, V, w1, st1, e1, r1, c1⟩ := step_goes (b := b) (k := k) (cs := cs) (rest := List.range' (i + 1) l.length) hT hcf hr (fun k h1 h2 => hfree k h1 (by have := hgood2.1; have := hgood3.1; omega)) ht ho g1
    obtain ⟨rfl, ht1⟩ := put_snd (a := a) (ht.mono e1.1) c1 g2
    obtain ⟨ρ2, a2, w2, st2, d2, e2, r2, t2⟩ := seq_goes hT hcf l (i + 1) s1 s' ρ1 w1 (a.put o.dst V) t1 t' (fun j => by have := hl (j + 1); simpa [Nat.add_assoc, Nat.add_comm 1 j] using this) r1
      (fun k h1 h2 => by rw [e1.2 k (by omega)]; exact hfree k (by have := hgood1.1; omega) h2) ht1 h
    refine ⟨ρ2, a2, w2, ?_, ?_, e1.trans e2 hgood1.1 hgood3.1, r2, t2⟩
    · rw [List.length_cons, List.range'_succ]
      exact st1.trans st2
    · rw [d2]; cases o.dst <;> rfl
end
end Go.Aex
