/- Summaries of calls at given arguments, from contracts that touch nothing that stood. -/
import Derived.Test.YtefleapekgbpcaaGreatDoorAexS3
set_option linter.unusedVariables false
set_option linter.unusedSimpArgs false
namespace Go.Aex
open Go.RowKit
/-- A function at given arguments: what it answers. -/
def litM (l : List (List AV × AV)) (args : List AV) : M AV := match l with
  | [] => fail
  | x :: l => match x with
    | (a, v) => match allB (valB 20) args a with
      | true => ret v
      | false => litM l args
/-- At given arguments a row of bytes is made, that stands in the answer. -/
def byteM (a : List AV) (bs : List UInt8) (f : AV → AV) (m : List AV → M AV) (args : List AV) : M AV := match allB (valB 20) args a with
  | true => bnd (grown 1 (somes (bytesAV bs)) bs.length) fun s => ret (f s)
  | false => m args
theorem good_litM : ∀ (l : List (List AV × AV)) (args : List AV), Good (litM l args)
  | [], args => good_fail
  | (a, v) :: l, args => by
    simp only [litM]
    split
    · exact good_ret _
    · exact good_litM l args
theorem bytesAV_map : ∀ l : List UInt8, bytesAV l = l.map fun b => .int .u8 (.ofNat b.toNat)
  | [] => rfl
  | b :: l => by simp only [bytesAV, List.map_cons, bytesAV_map l]; rw [strictN_eq]
theorem somes_map : ∀ l : List AV, somes l = l.map some
  | [] => rfl
  | b :: l => by simp only [somes, List.map_cons, somes_map l]
section
variable {P : Program} {B : Nat} {w0 : World}
/-- From a contract that touches nothing that stood. -/
theorem sum_of_below {g : Nat} {s : St} {ρ : Ren} {w : World} {ARGS : List Value} {v : AV} {V : Value} {fn : Func} (hfn : P.funcs[g]? = some fn) (hb : fn.body.isNone = false) (hn : (fn.name == "runtime.NumGoroutine") = false)
    (hc : Calls P g ARGS.toArray w fun e w' => e = .returned V ∧ Below w.heap.size w w') (hr : Rel B w0 ρ s.h.get w) (hv : conc ρ v = some V) :
    ∃ fn, P.funcs[g]? = some fn ∧ fn.body.isNone = false ∧ (fn.name == "runtime.NumGoroutine") = false ∧ ∀ cs : List Frame, ∃ ρ' V w' fr, Steps P (lone (Frame.enter P g ARGS.toArray .normal) cs w) (lone fr cs w') ∧ fr.fn = g ∧ fr.leaving P w' (.returned V) ∧ Ext ρ ρ' s.nx s.nx ∧ Rel B w0 ρ' s.h.get w' ∧ conc ρ' v = some V := by
  refine ⟨fn, hfn, hb, hn, fun cs => ?_⟩
  obtain ⟨e, w', fr, ⟨rfl, hbel⟩, h1, h2, h3⟩ := hc cs
  exact ⟨ρ, V, _, fr, h1, h2, h3, Ext.refl _ _ _, hr.keep hbel, hv⟩
theorem litM_ok {g : Nat} {fn : Func} (hfn : P.funcs[g]? = some fn) (hb : fn.body.isNone = false) (hn : (fn.name == "runtime.NumGoroutine") = false) :
    ∀ {l : List (List AV × AV)}, (∀ x ∈ l, ∃ ARGS V, (∀ ρ, concL ρ x.1 = some ARGS) ∧ (∀ ρ, conc ρ x.2 = some V) ∧ ∀ w, Below B w0 w → Calls P g ARGS.toArray w fun e w' => e = .returned V ∧ Below w.heap.size w w') → SumOk P B w0 g (litM l)
  | [], _ => ⟨fun args => good_litM [] args, fun h => (fail_some h).elim⟩
  | (a, v) :: l, hl => ⟨fun args => good_litM _ args, fun {args s v' s'} h ρ w ARGS hr hfree hA => by
      simp only [litM] at h
      split at h
      · rename_i e
        have e := allB_eq (fun a b => valB_eq) e
        subst e
        obtain ⟨rfl, rfl⟩ := ret_some h
        obtain ⟨ARGS', V, h1, h2, h3⟩ := hl _ (List.mem_cons_self ..)
        have h1 := h1 ρ
        simp only at h1
        rw [hA] at h1
        obtain rfl := Option.some.inj h1
        exact sum_of_below hfn hb hn (h3 w hr.bel) hr (h2 ρ)
      · exact (litM_ok hfn hb hn (l := l) fun x hx => hl x (List.mem_cons_of_mem _ hx)).run h hr hfree hA⟩
theorem byteM_ok {g : Nat} {fn : Func} (hfn : P.funcs[g]? = some fn) (hb : fn.body.isNone = false) (hn : (fn.name == "runtime.NumGoroutine") = false) {a : List AV} {bs : List UInt8} {f : AV → AV} {F : Value → Value} {m : List AV → M AV} {ARGS0 : List Value}
    (hm : SumOk P B w0 g m) (ha : ∀ ρ, concL ρ a = some ARGS0) (hf : ∀ ρ s S, conc ρ s = some S → conc ρ (f s) = some (F S))
    (hc : ∀ w, Below B w0 w → Calls P g ARGS0.toArray w fun e w' => Below w.heap.size w w' ∧ ∃ b c cs t fr, e = .returned (F (.slice (some ⟨b, 0, none⟩) bs.length c)) ∧ w.heap.size ≤ b ∧ w'.heap[b]? = some (.cells cs t fr) ∧ bs.length ≤ c ∧ c ≤ cs.size ∧ (fr.1 = fr.2 ∨ cs.size ≤ fr.1) ∧ ∀ k (hk : k < bs.length), cs[k]? = some (.int .u8 (bs[k].toNat : Int))) : SumOk P B w0 g (byteM a bs f m) where
  good args := by
    unfold byteM
    split
    · exact good_bnd (good_grown _ _ _) fun _ => good_ret _
    · exact hm.good args
  run {args s v s'} h ρ w ARGS hr hfree hA := by
    unfold byteM at h
    split at h
    · rename_i e
      have e := allB_eq (fun a b => valB_eq) e
      subst e
      replace h := bnd_some h; obtain ⟨sv, s1, g1, h⟩ := h
      obtain ⟨rfl, hh, hnx⟩ := grown_some g1
      obtain ⟨rfl, rfl⟩ := ret_some h
      have hA' := ha ρ
      rw [hA] at hA'
      obtain rfl := Option.some.inj hA'
      refine ⟨fn, hfn, hb, hn, fun cs => ?_⟩
      obtain ⟨e, w', fr, ⟨hbel, b, c, cells, t, fz, rfl, k1, k2, k3, k4, k5, k6⟩, h1, h2, h3⟩ := hc w hr.bel cs
      have hno := hfree s.nx (Nat.le_refl _) (by omega)
      refine ⟨setR ρ s.nx ⟨b, 0, c⟩, _, w', fr, h1, h2, h3, by rw [hnx]; exact ext_new _ hno, ?_, hf _ _ _ (by simp [conc, setR_same])⟩
      rw [hh, get_set_upd]
      have hk := hr.keep hbel
      refine hk.add hno (setR_le _ hno) (setR_same _ _ _) (fun k hk => setR_other _ _ hk) ?_ ?_ rfl rfl rfl (Nat.le_refl _) (fun _ _ _ => rfl) ?_
      · intro i q hl hq
        have := hr.blk_lt hl hq
        simp only; omega
      · have := hr.bel.size; have := hr.hB; simp only; omega
      · refine ⟨_, cells, t, fz, setR_same _ _ _, k2, by simp only; omega, ?_, k5, fun k v hv => ?_⟩
        · rw [somes_map, bytesAV_map]; simp; exact k3
        · rw [somes_map, bytesAV_map] at hv
          simp only [List.getElem?_map, Option.map_eq_some_iff] at hv
          obtain ⟨x, ⟨y, hy, rfl⟩, hx⟩ := hv
          cases hx
          obtain ⟨hlt, hye⟩ := List.getElem?_eq_some_iff.1 hy
          refine ⟨.int .u8 (y.toNat : Int), by simp [conc], ?_⟩
          simp only [Nat.zero_add]
          rw [k6 k hlt, hye]
    · exact hm.run h hr hfree hA
end
end Go.Aex
