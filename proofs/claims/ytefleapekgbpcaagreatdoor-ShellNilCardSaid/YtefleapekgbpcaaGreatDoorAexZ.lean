/- The tables of a program. -/
import Derived.Test.YtefleapekgbpcaaGreatDoorAexY
set_option linter.unusedVariables false
set_option linter.unusedSimpArgs false
namespace Go.Aex
open Go.RowKit
def blankIn : List Field → Bool
  | [] => false
  | f :: l => match f.name == "_" with
    | true => true
    | false => blankIn l
def blankD : TypeDesc → Bool
  | .struct fs => blankIn fs.toList
  | _ => false
def eqOkP (P : Program) (t : Nat) (d : TypeDesc) : Bool := match P.stoodInHeld t, P.eqGuardType P.depth t, blankD d with
  | false, false, false => true
  | _, _, _ => false
def tyOfP (P : Program) (t : Nat) : Option TyI := match P.underlying t, P.info? t with
  | some d, some i => match i.zero with
    | some z => match Nat.beq (cellsOf (ofV z)).length i.size, allOne (cellsOf (ofV z)) with
      | true, true => some ⟨d, i.size, i.bytes, isAggD d, eqOkP P t d, ofV z⟩
      | _, _ => none
    | none => none
  | _, _ => none
theorem blankIn_false : ∀ {l : List Field}, blankIn l = false → ∀ f ∈ l, f.name ≠ "_"
  | [], _, f, h => by cases h
  | x :: l, hb, f, h => by
    simp only [blankIn] at hb
    split at hb
    · cases hb
    · rename_i hx
      rcases List.mem_cons.1 h with rfl | h
      · intro e; rw [e] at hx; simp at hx
      · exact blankIn_false hb f h
theorem tyOfP_ok {P : Program} {t : Nat} {ti : TyI} (h : tyOfP P t = some ti) : TyOk P t ti := by
  unfold tyOfP at h
  split at h
  · rename_i d i hd hi
    split at h
    · rename_i z hz
      split at h
      · rename_i h1 h2
        cases h
        refine ⟨hd, ⟨i, z, hi, rfl, rfl, ofV_conc z, hz⟩, rfl, beq_true h1, h2, fun he => ?_⟩
        simp only [eqOkP] at he
        split at he
        · rename_i e1 e2 e3
          refine ⟨e1, e2, fun fs hfs => ?_⟩
          simp only at hfs
          subst hfs
          exact blankIn_false e3
        · cases he
      · cases h
    · cases h
  · cases h
def fnOfP (P : Program) (f : Nat) : Option Func := match P.funcs[f]? with
  | none => none
  | some fn => match fn.name == "runtime.NumGoroutine" with
    | true => none
    | false => some fn
theorem fnOfP_ok {P : Program} {f : Nat} {fn : Func} (h : fnOfP P f = some fn) : P.funcs[f]? = some fn ∧ (fn.name == "runtime.NumGoroutine") = false := by
  unfold fnOfP at h
  split at h
  · cases h
  · rename_i hf
    split at h
    · cases h
    · rename_i hn; cases h; exact ⟨hf, hn⟩
def upTo {α : Type} (n : Nat) (f : Nat → Option α) : List (Option α) := (List.range n).map f
def within {α : Type} (n : Nat) (t : T α) (k : Nat) : Option α := match Nat.blt k n with
  | true => t.get k
  | false => none
def env (nt nf : Nat) (tys : T TyI) (fns : T Func) : Env := ⟨within nt tys, within nf fns, fun _ => none⟩
theorem within_some {α : Type} {n k : Nat} {t : T α} {x : α} (f : Nat → Option α) (h : upTo n f = upTo n t.get) (e : within n t k = some x) : f k = some x := by
  unfold within at e
  split at e
  · rename_i hlt
    have hlt := blt_true hlt
    have : (upTo n f)[k]? = (upTo n t.get)[k]? := by rw [h]
    simp only [upTo, List.getElem?_map, List.getElem?_range hlt, Option.map_some, Option.some.injEq] at this
    rw [this]; exact e
  · cases e
theorem tab_of {P : Program} {nt nf : Nat} {tys : T TyI} {fns : T Func} (ht : upTo nt (tyOfP P) = upTo nt tys.get) (hf : upTo nf (fnOfP P) = upTo nf fns.get) (hm : P.follows .mixedOrders = true) : Tab (env nt nf tys fns) P :=
  ⟨fun t ti h => tyOfP_ok (within_some _ ht h), fun f fn h => fnOfP_ok (within_some _ hf h), hm⟩
def envS (nt nf : Nat) (tys : T TyI) (fns : T Func) (sum : Nat → Option (List AV → M AV)) : Env := ⟨within nt tys, within nf fns, sum⟩
theorem tab_ofS {P : Program} {nt nf : Nat} {tys : T TyI} {fns : T Func} {sum : Nat → Option (List AV → M AV)} (ht : upTo nt (tyOfP P) = upTo nt tys.get) (hf : upTo nf (fnOfP P) = upTo nf fns.get) (hm : P.follows .mixedOrders = true) : Tab (envS nt nf tys fns sum) P :=
  ⟨fun t ti h => tyOfP_ok (within_some _ ht h), fun f fn h => fnOfP_ok (within_some _ hf h), hm⟩
def saysTrue : Option (AV × St) → Bool
  | some (.bool true, _) => true
  | _ => false
theorem saysTrue_some {o : Option (AV × St)} (h : saysTrue o = true) : ∃ s', o = some (.bool true, s') := by
  unfold saysTrue at h
  split at h
  · exact ⟨_, rfl⟩
  · cases h
/-- A run that answers true. -/
theorem closed_args {P : Program} {E : Env} (hT : Tab E P) {f g : Nat} {args : List AV} {ARGS : List Value} (h : saysTrue (callA E f false g args ⟨.nil, 0, Ks.emp, Ks.emp⟩) = true) (hA : concL ren0 args = some ARGS) (w : World) (hsum : ∀ g m, E.sum g = some m → SumOk P w.heap.size w g m) :
    Calls P g ARGS.toArray w (fun e w' => e = .returned (.bool true) ∧ Below w.heap.size w w') := by
  obtain ⟨s', h⟩ := saysTrue_some h
  exact closed_run hT (V := .bool true) h (by simp [conc]) hA w hsum
/-- A run from a state that holds of the world. -/
theorem open_run {P : Program} {E : Env} {B : Nat} {w0 : World} (hT : Tab E P) (hsum : ∀ g m, E.sum g = some m → SumOk P B w0 g m) {f g : Nat} {v : AV} {s s' : St} {args : List AV} {ARGS : List Value} (h : callA E (f + 1) false g args s = some (v, s')) {ρ : Ren} {w : World}
    (hr : Rel B w0 ρ s.h.get w) (hfree : ∀ k, s.nx ≤ k → k < s'.nx → ρ k = none) (hA : concL ρ args = some ARGS) :
    Calls P g ARGS.toArray w (fun e w' => ∃ ρ' V, e = .returned V ∧ Ext ρ ρ' s.nx s'.nx ∧ Rel B w0 ρ' s'.h.get w' ∧ conc ρ' v = some V) := by
  intro cs
  obtain ⟨fn, h1, h2, h3, h4⟩ := fn_core hT hsum (callsOk hT hsum f) h hr hfree hA
  obtain ⟨ρ', V, w', fr, k1, k2, k3, k4, k5, k6⟩ := h4 cs
  exact ⟨.returned V, w', fr, ⟨ρ', V, rfl, k4, k5, k6⟩, k1, k2, k3⟩
/-- Nothing is known of a world to begin with. -/
theorem rel_nil (w : World) : Rel w.heap.size w ren0 (T.nil : T AObj).get w := ⟨Below.refl _ _, Nat.le_refl _, fun i o e => (by rw [T.get_nil] at e; cases e), fun i j p q _ _ e => (by cases e), fun i p _ e => (by cases e)⟩
end Go.Aex
