/- A call from a state of known objects: what it answers, what it leaves. -/
import Derived.Test.YtefleapekgbpcaaGreatDoorAexS2
set_option linter.unusedVariables false
set_option linter.unusedSimpArgs false
namespace Go.Aex
open Go.RowKit
def heldB (t : T AObj) : List (Nat × AObj) → Bool
  | [] => true
  | x :: l => match x with
    | (k, o) => match isDead o with
      | true => heldB t l
      | false => match t.get k with
        | none => false
        | some o' => match objB o' o with
          | true => heldB t l
          | false => false
theorem heldB_mem {t : T AObj} : ∀ {l : List (Nat × AObj)}, heldB t l = true → ∀ x ∈ l, x.2 = .dead ∨ t.get x.1 = some x.2
  | [], _, x, hx => nomatch hx
  | (k, o) :: l, h, x, hx => by
    simp only [heldB] at h
    have hin : (o = .dead ∨ t.get k = some o) ∧ heldB t l = true := by
      split at h
      · rename_i hd
        refine ⟨.inl ?_, h⟩
        cases o <;> first | rfl | cases hd
      · split at h
        · cases h
        · rename_i o' ho'
          split at h
          · rename_i e
            exact ⟨.inr (by rw [ho', objB_eq e]), h⟩
          · cases h
    rcases List.mem_cons.1 hx with rfl | hx
    · exact hin.1
    · exact heldB_mem hin.2 x hx
theorem litT_mem : ∀ {l : List (Nat × AObj)} {k : Nat} {o : AObj}, (litT l).get k = some o → (k, o) ∈ l
  | [], k, o, e => by rw [litT, T.get_nil] at e; cases e
  | (j, x) :: l, k, o, e => by
    simp only [litT, T.strictT_eq] at e
    rw [T.get_set] at e
    split at e
    · rename_i ek; subst ek; cases e; exact List.mem_cons_self ..
    · exact List.mem_cons_of_mem _ (litT_mem e)
/-- The answer, how many names, what is known behind the call. -/
def leaves (o : Option (AV × St)) (v : AV) (nx' : Nat) (q : List (Nat × AObj)) : Bool := match o with
  | none => false
  | some (v1, s) => match s with
    | ⟨h, nx, _, _⟩ => andB (valB 20 v1 v) (andB (Nat.beq nx nx') (heldB h q))
section
variable {E : Env} {P : Program} {B : Nat} {w0 : World}
theorem leaves_calls (hT : Tab E P) (hsum : ∀ g m, E.sum g = some m → SumOk P B w0 g m) {f g nx nx' : Nat} {p q : List (Nat × AObj)} {v : AV} {args : List AV} {ARGS : List Value} {ρ : Ren} {w : World} (h : leaves (callA E (f + 1) false g args ⟨litT p, nx, Ks.emp, Ks.emp⟩) v nx' q = true)
    (hr : Rel B w0 ρ (litT p).get w) (hfree : ∀ k, nx ≤ k → k < nx' → ρ k = none) (hA : concL ρ args = some ARGS) :
    Calls P g ARGS.toArray w (fun e w' => ∃ ρ' V, e = .returned V ∧ Ext ρ ρ' nx nx' ∧ Rel B w0 ρ' (litT q).get w' ∧ conc ρ' v = some V) := by
  unfold leaves at h
  split at h
  · cases h
  · rename_i v1 s1 hrun
    obtain ⟨h1, nx1, rd1, wr1⟩ := s1
    simp only at h
    obtain ⟨e1, h⟩ := andB_true h
    obtain ⟨e2, e3⟩ := andB_true h
    have e1 := valB_eq e1
    have e2 := beq_true e2
    subst e1 e2
    refine (open_run hT hsum (s := ⟨litT p, nx, Ks.emp, Ks.emp⟩) hrun hr hfree hA).mono fun e w' ⟨ρ', V, k1, k2, k3, k4⟩ => ⟨ρ', V, k1, k2, k3.less fun k o ho => ?_, k4⟩
    exact heldB_mem e3 (k, o) (litT_mem ho)
end
/-- Nothing that stood is touched. -/
theorem Rel.keep {B : Nat} {w0 w w' : World} {ρ : Ren} {h : Hp} (hr : Rel B w0 ρ h w) (hb : Below w.heap.size w w') : Rel B w0 ρ h w' := by
  have hlt := hr.bel.size
  have hB := hr.hB
  refine ⟨hr.bel.trans (hb.mono (by omega)), hr.hB, fun i o ho => ?_, hr.inj, hr.low⟩
  cases hlv : liveO o with
  | false => cases o <;> first | trivial | cases hlv
  | true => exact (hr.objs i o ho).world fun p hp => hb.block _ (hr.blk_lt ⟨o, ho, hlv⟩ hp)
end Go.Aex
