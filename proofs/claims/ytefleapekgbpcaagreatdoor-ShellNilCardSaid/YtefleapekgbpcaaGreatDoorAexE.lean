/- The executor's operations hold of the program's machine: memory. -/
import Derived.Test.YtefleapekgbpcaaGreatDoorAexD
import Derived.Laws.Sem
set_option linter.unusedVariables false
set_option linter.unusedSimpArgs false
namespace Go.Aex
open Go.RowKit

def ren0 : Ren := fun _ => none
def isAggD : TypeDesc → Bool
  | .struct _ => true
  | .array _ _ => true
  | _ => false
/-- The executor's table of types is the program's. -/
structure TyOk (P : Program) (t : Nat) (ti : TyI) : Prop where
  under : P.underlying t = some ti.desc
  info : ∃ i z, P.info? t = some i ∧ i.size = ti.size ∧ i.bytes = ti.bytes ∧ conc ren0 ti.zero = some z ∧ i.zero = some z
  agg : ti.agg = isAggD ti.desc
  zsz : (cellsOf ti.zero).length = ti.size
  zone : allOne (cellsOf ti.zero) = true
  eq : ti.eqok = true → P.stoodInHeld t = false ∧ P.eqGuardType P.depth t = false ∧ ∀ fs, ti.desc = .struct fs → ∀ f ∈ fs.toList, f.name ≠ "_"
structure Tab (E : Env) (P : Program) : Prop where
  ty : ∀ t ti, E.ty t = some ti → TyOk P t ti
  fn : ∀ f fn, E.fn f = some fn → P.funcs[f]? = some fn ∧ (fn.name == "runtime.NumGoroutine") = false
  mixed : P.follows .mixedOrders = true

theorem conc_ren0 {ρ : Ren} {v : AV} {V : Value} (h : conc ren0 v = some V) : conc ρ v = some V := conc_mono (fun i p e => by cases e) v V h

/-! ### the monad -/
def Run {α : Type} (m : M α) (s : St) (x : α) (s' : St) : Prop := m s = some (x, s')
theorem bnd_some {α β : Type} {m : M α} {f : α → M β} {s s' : St} {y : β} (h : Run (bnd m f) s y s') : ∃ x s1, Run m s x s1 ∧ Run (f x) s1 y s' := by
  unfold Run bnd at h
  split at h
  · cases h
  · rename_i x s1 hm; exact ⟨x, s1, hm, h⟩
theorem ret_some {α : Type} {a x : α} {s s' : St} (h : Run (ret a) s x s') : a = x ∧ s = s' := by
  unfold Run ret at h; cases h; exact ⟨rfl, rfl⟩
theorem fail_some {α : Type} {x : α} {s s' : St} (h : Run fail s x s') : False := by cases h
theorem ofOpt_some {α : Type} {o : Option α} {x : α} {s s' : St} (h : Run (ofOpt o) s x s') : o = some x ∧ s = s' := by
  cases o with
  | none => cases h
  | some a => obtain ⟨rfl, rfl⟩ := ret_some h; exact ⟨rfl, rfl⟩
/-- A step that reads alone. -/
def Reads (s s' : St) : Prop := s'.h = s.h ∧ s'.nx = s.nx
theorem Reads.refl (s : St) : Reads s s := ⟨rfl, rfl⟩
theorem Reads.trans {a b c : St} (h : Reads a b) (k : Reads b c) : Reads a c := ⟨k.1.trans h.1, k.2.trans h.2⟩
theorem getO_some {i : Nat} {o : AObj} {s s' : St} (h : Run (getO i) s o s') : s.h.get i = some o ∧ Reads s s' := by
  unfold Run at h; rw [getO_eq] at h; dsimp only at h
  split at h
  · cases h
  · rename_i o' ho; cases h; exact ⟨ho, rfl, rfl⟩
theorem setO_some {i : Nat} {o : AObj} {u : Unit} {s s' : St} (h : Run (setO i o) s u s') : s.h.get i ≠ none ∧ s'.h = s.h.set i o ∧ s'.nx = s.nx := by
  unfold Run at h; rw [setO_eq] at h; dsimp only at h
  split at h
  · cases h
  · rename_i x hx; cases h; exact ⟨by rw [hx]; simp, rfl, rfl⟩
theorem newO_some {i : Nat} {o : AObj} {s s' : St} (h : Run (newO o) s i s') : i = s.nx ∧ s'.h = s.h.set s.nx o ∧ s'.nx = s.nx + 1 ∧ s.h.get s.nx = none := by
  unfold Run at h; rw [newO_eq] at h; dsimp only at h
  split at h
  · rename_i hx; cases h; exact ⟨rfl, rfl, rfl, hx⟩
  · cases h
theorem getRow_some {i : Nat} {r : Nat × List (Option AV)} {s s' : St} (h : Run (getRow i) s r s') : s.h.get i = some (.row r.1 r.2) ∧ Reads s s' := by
  obtain ⟨o, s1, h1, h2⟩ := bnd_some h
  obtain ⟨ho, hr⟩ := getO_some h1
  split at h2
  · obtain ⟨rfl, rfl⟩ := ret_some h2; exact ⟨ho, hr⟩
  · exact (fail_some h2).elim
theorem getMap_some {i : Nat} {r : List (AV × AV × Nat) × Nat} {s s' : St} (h : Run (getMap i) s r s') : s.h.get i = some (.map r.1 r.2) ∧ Reads s s' := by
  obtain ⟨o, s1, h1, h2⟩ := bnd_some h
  obtain ⟨ho, hr⟩ := getO_some h1
  split at h2
  · obtain ⟨rfl, rfl⟩ := ret_some h2; exact ⟨ho, hr⟩
  · exact (fail_some h2).elim
theorem tyOf_some {E : Env} {t : Nat} {ti : TyI} {s s' : St} (h : Run (tyOf E t) s ti s') : E.ty t = some ti ∧ s = s' := ofOpt_some h
theorem strictN_eq {β : Type} (n : Nat) (f : Nat → β) : strictN n f = f n := by cases n <;> rfl
theorem strictI_eq {β : Type} (n : Int) (f : Int → β) : strictI n f = f n := by cases n <;> simp [strictI, strictN_eq]

/-! ### the program's side -/
section
variable {P : Program} {w : World}
theorem run_underlying_of {t : Nat} {d : TypeDesc} (h : P.underlying t = some d) : (underlying t).run P w = .ok d w := by simp [underlying, h]
theorem run_typeInfo_of {t : Nat} {i : TypeInfo} (h : P.info? t = some i) : (typeInfo t).run P w = .ok i w := by simp [typeInfo, h]
theorem run_sizeOf_of {t : Nat} {ti : TyI} (h : TyOk P t ti) : (sizeOf t).run P w = .ok ti.size w := by
  obtain ⟨i, z, hi, hs, hb, hz, hzz⟩ := h.info
  simp [sizeOf, run_typeInfo_of hi, hs]
theorem run_zeroValue_of {t : Nat} {ti : TyI} (h : TyOk P t ti) : ∃ z, conc ren0 ti.zero = some z ∧ (zeroValue t).run P w = .ok z w := by
  obtain ⟨i, z, hi, hs, hb, hz, hzz⟩ := h.info
  exact ⟨z, hz, by simp [zeroValue, run_typeInfo_of hi, hzz]⟩
theorem run_isAgg_of {t : Nat} {ti : TyI} (h : TyOk P t ti) : (isAgg t).run P w = .ok ti.agg w := by
  rw [h.agg]
  cases hd : ti.desc <;> simp [isAgg, run_underlying_of h.under, hd, isAggD]
end

theorem cell_of {w : World} {b o : Nat} {c : Array Value} {t : TypeId} {fr : Nat × Nat} (h : w.heap[b]? = some (.cells c t fr)) : w.cell? ⟨b, o, none⟩ = c[o]? := by
  simp [World.cell?, h]
theorem add_off (b o n : Nat) : (⟨b, o, none⟩ : Addr).add n = ⟨b, o + n, none⟩ := by
  unfold Addr.add; split
  · rename_i h; subst h; rfl
  · rfl
theorem cells_conc {ρ : Ren} {v : AV} {V : Value} (h : conc ρ v = some V) (h1 : allOne (cellsOf v) = true) : concL ρ (cellsOf v) = some V.cells.toList := by
  cases v <;> simp only [cellsOf, allOne, one] at h1 ⊢
  case agg l =>
    simp only [conc] at h
    cases hl : concL ρ l with
    | none => rw [hl] at h; cases h
    | some L => rw [hl] at h; cases h; simp [Value.cells]
  case tuple l => simp at h1
  case raw u =>
    simp only [conc] at h; cases h
    cases V <;> simp_all [Value.oneCell', Value.cells, concL, conc]
  case slice i o len cap =>
    cases cap <;> simp only [conc] at h <;> (cases hp : ρ i with | none => rw [hp] at h; cases h | some p => rw [hp] at h; cases h; simp [concL, conc, hp, Value.cells])
  case iface t u =>
    simp only [conc] at h
    cases hp : conc ρ u with
    | none => rw [hp] at h; cases h
    | some p => rw [hp] at h; cases h; simp [concL, conc, hp, Value.cells]
  case func f a b =>
    have h' := h
    simp only [conc] at h'
    split at h'
    · cases h'; simp [concL, h, Value.cells]
    · cases h'
  all_goals first
    | (simp only [conc] at h; cases h; simp [concL, conc, Value.cells]; done)
    | (simp only [conc] at h
       rename_i i
       cases hp : ρ i with
       | none => rw [hp] at h; cases h
       | some p => rw [hp] at h; cases h; simp [concL, conc, hp, Value.cells])
    | (simp only [conc] at h
       rename_i i o
       cases hp : ρ i with
       | none => rw [hp] at h; cases h
       | some p => rw [hp] at h; cases h; simp [concL, conc, hp, Value.cells])
    | (simp only [conc] at h
       rename_i i o o' k
       cases hp : ρ i with
       | none => rw [hp] at h; cases h
       | some p => rw [hp] at h; cases h; simp [concL, conc, hp, Value.cells])
theorem one_conc {ρ : Ren} {v : AV} {V : Value} (h : conc ρ v = some V) (h1 : one v = true) : V.oneCell' = true := by
  cases v
  case agg => simp [one] at h1
  case tuple => simp [one] at h1
  case raw => simp only [one] at h1; simp only [conc] at h; cases h; exact h1
  case slice i o len cap =>
    cases cap <;> simp only [conc] at h <;> (cases hp : ρ i with | none => rw [hp] at h; cases h | some p => rw [hp] at h; cases h; rfl)
  case func f a b =>
    simp only [conc] at h
    split at h
    · cases h; rfl
    · cases h
  case iface t u =>
    simp only [conc] at h
    cases hp : conc ρ u with
    | none => rw [hp] at h; cases h
    | some p => rw [hp] at h; cases h; rfl
  all_goals simp only [conc] at h
  all_goals first
    | (cases h; rfl)
    | (rename_i i; cases hp : ρ i with | none => rw [hp] at h; cases h | some p => rw [hp] at h; cases h; rfl)
    | (rename_i i o; cases hp : ρ i with | none => rw [hp] at h; cases h | some p => rw [hp] at h; cases h; rfl)
    | (rename_i i o o' k; cases hp : ρ i with | none => rw [hp] at h; cases h | some p => rw [hp] at h; cases h; rfl)
theorem allOne_mem {l : List AV} (h : allOne l = true) : ∀ v ∈ l, one v = true := by
  induction l with
  | nil => intro v hv; cases hv
  | cons a l ih =>
    simp only [allOne] at h
    split at h
    · rename_i h1
      intro v hv
      rcases List.mem_cons.1 hv with rfl | hv
      · exact h1
      · exact ih h v hv
    · cases h
theorem concL_one {ρ : Ren} : ∀ {l : List AV} {L : List Value}, concL ρ l = some L → allOne l = true → ∀ V ∈ L, V.oneCell' = true
  | [], L, h, _, V, hV => by simp only [concL] at h; cases h; cases hV
  | v :: l, L, h, h1, V, hV => by
    obtain ⟨x, y, hx, hy, rfl⟩ := concL_cons h
    have h1' := allOne_mem h1
    rcases List.mem_cons.1 hV with rfl | hV
    · exact one_conc hx (h1' v (List.mem_cons_self ..))
    · refine concL_one hy ?_ V hV
      simp only [allOne] at h1; split at h1
      · exact h1
      · cases h1

/-! ### loads -/
theorem takeAll_get : ∀ {n : Nat} {cs : List (Option AV)} {l : List AV}, takeAll n cs = some l → l.length = n ∧ ∀ (k : Nat) (v : AV), l[k]? = some v → cs[k]? = some (some v)
  | 0, cs, l, h => by simp only [takeAll] at h; cases h; exact ⟨rfl, fun k v hk => by simp at hk⟩
  | n + 1, [], l, h => by simp only [takeAll] at h; cases h
  | n + 1, none :: xs, l, h => by simp only [takeAll] at h; cases h
  | n + 1, some v :: xs, l, h => by
    simp only [takeAll] at h
    split at h
    · cases h
    · rename_i r hr
      cases h
      obtain ⟨h1, h2⟩ := takeAll_get hr
      refine ⟨by simp [h1], fun k u hk => ?_⟩
      cases k with
      | zero => simpa using hk
      | succ k => simpa using h2 k u (by simpa using hk)
theorem concL_of_get {ρ : Ren} (f : Nat → Option Value) : ∀ (l : List AV), (∀ k v, l[k]? = some v → ∃ V, conc ρ v = some V ∧ f k = some V) → ∃ L, concL ρ l = some L ∧ ∀ k V, L[k]? = some V → f k = some V
  | [], _ => ⟨[], by simp [concL], fun k V h => by simp at h⟩
  | v :: l, h => by
    obtain ⟨V, hV, hf⟩ := h 0 v (by simp)
    obtain ⟨L, hL, hLf⟩ := concL_of_get (fun k => f (k + 1)) l (fun k u hk => h (k + 1) u (by simpa using hk))
    refine ⟨V :: L, concL_mk hV hL, fun k U hk => ?_⟩
    cases k with
    | zero => simp at hk; subst hk; exact hf
    | succ k => exact hLf k U (by simpa using hk)
theorem load_cells {P : Program} {w : World} {ρ : Ren} {i o : Nat} {e : Nat} {cs : List (Option AV)} {p : Pl} {n : Nat} {l : List AV} (hr : ObjRel ρ i (.row e cs) w) (hp : ρ i = some p)
    (hl : takeAll n (cs.drop o) = some l) : ∃ L, concL ρ l = some L ∧ (loadCells ⟨p.blk, p.base + o, none⟩ n).run P w = .ok L.toArray w := by
  obtain ⟨q, c, t, fr, h1, h2, h3, h4, h5, h6⟩ := hr
  rw [hp] at h1; cases h1
  obtain ⟨hn, hg⟩ := takeAll_get hl
  obtain ⟨L, hL, hf⟩ := concL_of_get (fun k => c[p.base + o + k]?) l (fun k v hk => by
    have := hg k v hk
    rw [List.getElem?_drop] at this
    obtain ⟨V, hV, hc⟩ := h6 _ v this
    exact ⟨V, hV, by rw [← hc, Nat.add_assoc]⟩)
  have hlen := concL_length hL
  refine ⟨L, hL, ?_⟩
  have := run_loadCells_list (P := P) (w := w) ⟨p.blk, p.base + o, none⟩ L (fun j v hj => by
    rw [add_off, cell_of h2]; exact hf j v hj)
  rw [hlen, hn] at this
  exact this
theorem ptr_conc {ρ : Ren} {i o : Nat} {A : Value} (h : conc ρ (.ptr i o) = some A) : ∃ p, ρ i = some p ∧ A = .pointer (some ⟨p.blk, p.base + o, none⟩) := by
  simp only [conc] at h
  cases hp : ρ i with
  | none => rw [hp] at h; cases h
  | some p => rw [hp] at h; cases h; exact ⟨p, rfl, rfl⟩
theorem load_snd {E : Env} {P : Program} (hT : Tab E P) {B : Nat} {w0 w : World} {ρ : Ren} {s s' : St} {t : Nat} {a v : AV} {A : Value} (hr : Rel B w0 ρ s.h.get w)
    (ha : conc ρ a = some A) (h : Run (loadA E t a) s v s') : Reads s s' ∧ ∃ V, conc ρ v = some V ∧ (Instr.loadAt t A).run P w = .ok V w := by
  unfold loadA at h
  split at h
  · rename_i i o
    obtain ⟨p, hp, rfl⟩ := ptr_conc ha
    replace h := bnd_some h; obtain ⟨ti, s1, h1, h⟩ := h
    obtain ⟨hti, rfl⟩ := tyOf_some h1
    replace h := bnd_some h; obtain ⟨r, s2, h2, h⟩ := h
    obtain ⟨hrow, hrd⟩ := getRow_some h2
    have ho := hr.objs i _ hrow
    have hty := hT.ty t ti hti
    cases hagg : ti.agg with
    | true =>
      simp only [hagg] at h
      cases hl : takeAll ti.size (r.2.drop o) with
      | some l =>
        simp only [hl] at h
        obtain ⟨rfl, rfl⟩ := ret_some h
        obtain ⟨L, hL, hrun⟩ := load_cells (P := P) ho hp hl
        refine ⟨hrd, .agg L.toArray, by simp [conc, hL], ?_⟩
        simp [Instr.loadAt, Instr.sureAddr, loadVar, run_isAgg_of hty, hagg, run_sizeOf_of hty, hrun]
      | none => simp only [hl] at h; exact (fail_some h).elim
    | false =>
      simp only [hagg] at h
      cases hu : nth r.2 o with
      | none => simp only [hu] at h; exact (fail_some h).elim
      | some ou => cases ou with
       | none => simp only [hu] at h; exact (fail_some h).elim
       | some u =>
        simp only [hu] at h
        obtain ⟨rfl, rfl⟩ := ret_some h
        obtain ⟨q, c, t', fr, h1, h2, h3, h4, h5, h6⟩ := ho
        rw [hp] at h1; cases h1
        rw [nth_eq] at hu
        obtain ⟨V, hV, hc⟩ := h6 o u hu
        refine ⟨hrd, V, hV, ?_⟩
        simp [Instr.loadAt, Instr.sureAddr, loadVar, run_isAgg_of hty, hagg, cell_of h2, hc]
  · exact (fail_some h).elim

/-! ### stores -/
theorem run_storeCells_any (P : Program) (b o : Nat) (t : TypeId) (fr : Nat × Nat) : ∀ (vs : List Value) (i : Nat) (c : Array Value) (w : World), w.heap[b]? = some (.cells c t fr) →
    o + i + vs.length ≤ c.size → (fr.1 = fr.2 ∨ c.size ≤ fr.1) → (∀ v ∈ vs, v.oneCell' = true) →
    ∃ w' c', (storeCells ⟨b, o, none⟩ vs i).run P w = .ok () w' ∧ w'.heap[b]? = some (.cells c' t fr) ∧ c'.size = c.size ∧
      (∀ k, c'[k]? = if o + i ≤ k ∧ k < o + i + vs.length then vs[k - (o + i)]? else c[k]?) ∧ (∀ k, k ≠ b → w'.heap[k]? = w.heap[k]?) ∧ w'.heap.size = w.heap.size ∧ w'.os = w.os ∧ w'.tape = w.tape ∧ w'.output = w.output
  | [], i, c, w, hg, hfit, hfz, h1 => ⟨w, c, by simp [storeCells], hg, rfl, fun k => by simp; intro _ h; omega, fun _ _ => rfl, rfl, rfl, rfl, rfl⟩
  | v :: vs, i, c, w, hg, hfit, hfz, h1 => by
    simp only [List.length_cons] at hfit
    have hv : v.oneCell' = true := h1 v (List.mem_cons_self ..)
    have hlt : o + i < c.size := by omega
    have hc : w.cell? ⟨b, o + i, none⟩ = some c[o + i] := by rw [cell_of hg, Array.getElem?_eq_getElem hlt]
    have hf : w.frozen? ⟨b, o + i, none⟩ = false := by
      simp only [World.frozen?, hg]
      simp only [Bool.and_eq_false_iff, decide_eq_false_iff_not]
      omega
    have hset : (w.setCell ⟨b, o + i, none⟩ v).heap[b]? = some (.cells (c.setIfInBounds (o + i) v) t fr) := by
      simp [World.setCell, Array.getElem?_modify, hg]
    obtain ⟨w', c', hrun, hg', hsz, hk, hoth, hhs, ho1, ho2, ho3⟩ := run_storeCells_any P b o t fr vs (i + 1) (c.setIfInBounds (o + i) v) (w.setCell ⟨b, o + i, none⟩ v) hset (by simp; omega) (by simpa using hfz) (fun u hu => h1 u (List.mem_cons_of_mem _ hu))
    refine ⟨w', c', ?_, hg', by simpa using hsz, fun k => ?_, fun k hkb => ?_, by simpa using hhs, ho1, ho2, ho3⟩
    · simp only [storeCells, Sem.run_bind, add_off, run_store P w _ v _ hv, hc, hf]
      simpa using hrun
    · rw [hk k]
      by_cases e1 : o + (i + 1) ≤ k ∧ k < o + (i + 1) + vs.length
      · rw [if_pos e1, if_pos (by simp only [List.length_cons]; omega)]
        have : k - (o + i) = (k - (o + (i + 1))) + 1 := by omega
        rw [this, List.getElem?_cons_succ]
      · rw [if_neg e1]
        by_cases e2 : k = o + i
        · subst e2
          rw [if_pos (by simp only [List.length_cons]; omega)]
          simp [hlt]
        · rw [if_neg (by simp only [List.length_cons]; omega)]
          simp [Array.getElem?_setIfInBounds, Ne.symm e2]
    · rw [hoth k hkb]
      simp only [World.setCell, Array.getElem?_modify]
      rw [if_neg (fun e => hkb e.symm)]
end Go.Aex
