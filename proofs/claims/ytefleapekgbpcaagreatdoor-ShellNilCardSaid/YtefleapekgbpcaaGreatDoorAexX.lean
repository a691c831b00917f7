/- Statements. -/
import Derived.Test.YtefleapekgbpcaaGreatDoorAexW
import Derived.RangeFuncIn
import Derived.RangeFuncRecord
set_option linter.unusedVariables false
set_option linter.unusedSimpArgs false
namespace Go.Aex
open Go.RowKit Go.Conc
/-- The marks of the loops over functions that a frame has entered. -/
def DRel (ρ : Ren) : List Nat → List Deferred → Prop
  | [], [] => True
  | d :: ds, x :: xs => (∃ p, ρ d = some p ∧ x = { target := .collected p.blk, args := #[] }) ∧ DRel ρ ds xs
  | _, _ => False
theorem DRel.mono {ρ ρ' : Ren} (h : Le ρ ρ') : ∀ {ds : List Nat} {xs : List Deferred}, DRel ρ ds xs → DRel ρ' ds xs
  | [], [], _ => trivial
  | [], _ :: _, k => k.elim
  | _ :: _, [], k => k.elim
  | d :: ds, x :: xs, ⟨⟨p, h1, h2⟩, k⟩ => ⟨⟨p, h _ _ h1, h2⟩, DRel.mono h k⟩
/-- Where a statement leads. -/
def Reach (P : Program) (m : Machine) (b : Frame) (cs : List Frame) (k : List Item) (o : Out) (a : Act) (w : World) : Prop := match o with
  | .norm => Steps P m (lone (fat b a k) cs w)
  | .exit id => ∃ k', Steps P m (lone (fat b a (.code (.exit id) :: k')) cs w) ∧ exitTo id k' = exitTo id k
  | .ret => ∃ k', Steps P m (lone (fat b a (.code .ret :: k')) cs w)
theorem Reach.of_steps {P : Program} {m m1 : Machine} {b : Frame} {cs : List Frame} {k : List Item} {o : Out} {a : Act} {w : World} (h : Steps P m m1) (r : Reach P m1 b cs k o a w) : Reach P m b cs k o a w := by
  cases o with
  | norm => exact h.trans r
  | exit id => obtain ⟨k', h1, h2⟩ := r; exact ⟨k', h.trans h1, h2⟩
  | ret => obtain ⟨k', h1⟩ := r; exact ⟨k', h.trans h1⟩
section
variable {P : Program} {b : Frame} {a : Act} {k : List Item} {cs : List Frame} {w : World}
theorem f_rangeFunc {g : Operand} {ps : Array Tmp} {assign body : Code} {l : Nat} {mark : List Deferred} {w₁ w₂ : World} {f : FuncId} {args : Array Value}
    (he : (Instr.enterLoop b.fn a.tmps ps assign body b.roundOf).run P w = .ok (l, mark) w₁)
    (hinv : (do let d ← resolve a.eval (rangeCall g l) 0; invoke d.target d.args : Sem Next).run P w₁ = .ok (.enter f args) w₂) :
    step P (lone (fat b a (.code (.rangeFunc g ps assign body) :: k)) cs w) =
      .next (lone (Frame.enter P f args .normal) (fat b { a with defers := mark ++ a.defers } (.inRangeFunc l :: k) :: cs) w₂) :=
  step_lone_go (by
    have hev := fat_eval' (b := b) (a := { a with defers := mark ++ a.defers }) (.inRangeFunc l :: k)
    simp only [fat] at hev
    have hres' : Sem.run P (do let d ← resolve ({ tmps := a.tmps, defers := mark ++ a.defers } : Act).eval { callee := .value g, args := #[.const (.func (.yield l) #[] #[])], argTypes := #[] } 0; invoke d.target d.args : Sem Next) w₁ = .ok (.enter f args) w₂ := hinv
    simp [stepG, stepG.exec, fat, Sem.runT_eq, he, GStep.bare_after, stepG.apply, hev, hres'])
theorem f_endRangeFunc {l : Nat} {jump : Option Code} {w' : World} (h : (Instr.endLoop l).run P w = .ok jump w') :
    step P (lone (fat b a (.endRangeFunc l :: k)) cs w) = .next (lone (fat b a ((jump.map Item.code).toList ++ k)) cs w') :=
  step_lone_go (by simp [stepG, stepG.exec, fat, Sem.runT_eq, h, GStep.bare_after])
theorem fat_finish_inRangeFunc (l : Nat) (v : Value) : (fat b a (.inRangeFunc l :: k)).finish v = fat b a (.endRangeFunc l :: k) := by
  simp [Frame.finish, fat]
end
theorem alloc_old (w : World) (o : Obj) {b : Nat} (h : b < w.heap.size) : (w.alloc o).heap[b]? = w.heap[b]? := by
  show (w.heap.push o)[b]? = _
  rw [Array.getElem?_push, if_neg (by omega)]
section
variable {E : Env} {P : Program} {B : Nat} {w0 : World} {cf : Bool → Nat → List AV → M AV} {n : Nat} {b : Frame} {cs : List Frame}
/-- A new object in a block of its own. -/
theorem Rel.fresh {ρ : Ren} {h : Hp} {w : World} (hr : Rel B w0 ρ h w) {i : Nat} (hn : ρ i = none) (o : AObj) (O : Obj) (ho : ObjRel (setR ρ i ⟨w.heap.size, 0, 0⟩) i o (w.alloc O)) : Rel B w0 (setR ρ i ⟨w.heap.size, 0, 0⟩) (Aex.upd h i o) (w.alloc O) := by
  refine hr.add hn (setR_le _ hn) (setR_same _ _ _) (fun k hk => setR_other _ _ hk) ?_ ?_ rfl rfl rfl ?_ ?_ ho
  · intro j q hl hq e
    have := hr.blk_lt hl hq
    simp only at e
    omega
  · have := hr.bel.size; have := hr.hB; simp only; omega
  · show _ ≤ (w.heap.push O).size
    simp
  · intro j _ hj; exact alloc_old w O hj
theorem code_snd (hT : Tab E P) (hcf : CallsOk P B w0 cf) {rnd : Bool} (hb : rnd = false → b.roundOf = none) : ∀ (f : Nat) (c : Code) (it : Item) (fr : Fr) (s : St) (r : Out × Fr) (s' : St) (ρ : Ren) (w : World) (a : Act) (k : List Item),
    (it = .code c ∨ ∃ x, c = .loop x ∧ it = .inLoop x) → Rel B w0 ρ s.h.get w → (∀ k, s.nx ≤ k → k < s'.nx → ρ k = none) → TRel ρ n fr.t a.tmps → DRel ρ fr.ds a.defers → Run (codeA E cf rnd n f c fr) s r s' →
    ∃ ρ' a' w', Reach P (lone (fat b a (it :: k)) cs w) b cs k r.1 a' w' ∧ Ext ρ ρ' s.nx s'.nx ∧ Rel B w0 ρ' s'.h.get w' ∧ TRel ρ' n r.2.t a'.tmps ∧ DRel ρ' r.2.ds a'.defers := by
  intro f
  induction f with
  | zero => intro c it fr s r s' ρ w a k _ _ _ _ _ h; unfold codeA at h; exact (fail_some h).elim
  | succ f ih =>
    have gc := fun c t => good_codeA E cf hcf.good rnd n f c t
    intro c it fr s r s' ρ w a k hit hr hfree ht hd h
    cases c with
    | skip =>
      rcases hit with rfl | ⟨x, e, _⟩
      · unfold codeA at h
        obtain ⟨rfl, rfl⟩ := ret_some h
        exact ⟨ρ, a, w, Steps.one f_skip, Ext.refl _ _ _, hr, ht, hd⟩
      · cases e
    | label l =>
      rcases hit with rfl | ⟨x, e, _⟩
      · unfold codeA at h
        obtain ⟨rfl, rfl⟩ := ret_some h
        exact ⟨ρ, a, w, Steps.one f_label, Ext.refl _ _ _, hr, ht, hd⟩
      · cases e
    | region id ops draw =>
      rcases hit with rfl | ⟨x, e, _⟩
      · unfold codeA at h
        replace h := bnd_some h; obtain ⟨t1, s1, g1, h⟩ := h
        obtain ⟨rfl, rfl⟩ := ret_some h
        obtain ⟨ρ', a', w', h1, h2, h3, h4, h5⟩ := region_goes (b := b) (k := k) (cs := cs) (id := id) hT hcf hr hfree ht g1
        exact ⟨ρ', a', w', h1, h3, h4, h5, by rw [h2]; exact hd.mono h3.1⟩
      · cases e
    | seq x y =>
      rcases hit with rfl | ⟨x, e, _⟩
      · unfold codeA at h
        replace h := bnd_some h; obtain ⟨⟨o1, fr1⟩, s1, g1, h⟩ := h
        have m1 := (gc x fr).mono g1
        cases o1 with
        | norm =>
          simp only at h
          have m2 := (gc y fr1).mono h
          obtain ⟨ρ1, a1, w1, r1, e1, rel1, t1, d1⟩ := ih x (.code x) fr s _ s1 ρ w a (.code y :: k) (.inl rfl) hr (fun k h1 h2 => hfree k h1 (by have := m2.1; omega)) ht hd g1
          obtain ⟨ρ2, a2, w2, r2, e2, rel2, t2, d2⟩ := ih y (.code y) fr1 s1 _ s' ρ1 w1 a1 k (.inl rfl) rel1 (fun k h1 h2 => by rw [e1.2 k (by omega)]; exact hfree k (by have := m1.1; omega) h2) t1 d1 h
          exact ⟨ρ2, a2, w2, r2.of_steps (Steps.head f_seq r1), e1.trans e2 m1.1 m2.1, rel2, t2, d2⟩
        | exit i =>
          simp only at h
          obtain ⟨rfl, rfl⟩ := ret_some h
          obtain ⟨ρ1, a1, w1, ⟨k', r1, hk'⟩, e1, rel1, t1, d1⟩ := ih x (.code x) fr s _ s1 ρ w a (.code y :: k) (.inl rfl) hr hfree ht hd g1
          exact ⟨ρ1, a1, w1, ⟨k', Steps.head f_seq r1, hk'⟩, e1, rel1, t1, d1⟩
        | ret =>
          simp only at h
          obtain ⟨rfl, rfl⟩ := ret_some h
          obtain ⟨ρ1, a1, w1, ⟨k', r1⟩, e1, rel1, t1, d1⟩ := ih x (.code x) fr s _ s1 ρ w a (.code y :: k) (.inl rfl) hr hfree ht hd g1
          exact ⟨ρ1, a1, w1, ⟨k', Steps.head f_seq r1⟩, e1, rel1, t1, d1⟩
      · cases e
    | cond c x y =>
      rcases hit with rfl | ⟨x, e, _⟩
      · unfold codeA at h
        simp only at h
        have hc := ev_conc ht c
        split at h
        · rename_i hev
          rw [hev] at hc
          simp only [conc, Option.some.injEq] at hc
          obtain ⟨ρ1, a1, w1, r1, e1, rel1, t1, d1⟩ := ih x (.code x) fr s _ s' ρ w a k (.inl rfl) hr hfree ht hd h
          have st := f_cond (P := P) (b := b) (a := a) (k := k) (cs := cs) (w := w) (x := x) (y := y) hc.symm
          simp only [↓reduceIte] at st
          exact ⟨ρ1, a1, w1, r1.of_steps (.one st), e1, rel1, t1, d1⟩
        · rename_i hev
          rw [hev] at hc
          simp only [conc, Option.some.injEq] at hc
          obtain ⟨ρ1, a1, w1, r1, e1, rel1, t1, d1⟩ := ih y (.code y) fr s _ s' ρ w a k (.inl rfl) hr hfree ht hd h
          have st := f_cond (P := P) (b := b) (a := a) (k := k) (cs := cs) (w := w) (x := x) (y := y) hc.symm
          simp only [Bool.false_eq_true, ↓reduceIte] at st
          exact ⟨ρ1, a1, w1, r1.of_steps (.one st), e1, rel1, t1, d1⟩
        · exact (fail_some h).elim
      · cases e
    | block id x =>
      rcases hit with rfl | ⟨x, e, _⟩
      · unfold codeA at h
        replace h := bnd_some h; obtain ⟨⟨o1, fr1⟩, s1, g1, h⟩ := h
        cases o1 with
        | norm =>
          simp only at h
          obtain ⟨rfl, rfl⟩ := ret_some h
          obtain ⟨ρ1, a1, w1, r1, e1, rel1, t1, d1⟩ := ih x (.code x) fr s _ s1 ρ w a (.inBlock id :: k) (.inl rfl) hr hfree ht hd g1
          exact ⟨ρ1, a1, w1, Steps.head f_block (Steps.trans r1 (.one f_inBlock)), e1, rel1, t1, d1⟩
        | exit i =>
          simp only at h
          split at h
          · rename_i hi
            have hi := beq_true hi
            subst hi
            obtain ⟨rfl, rfl⟩ := ret_some h
            obtain ⟨ρ1, a1, w1, ⟨k', r1, hk'⟩, e1, rel1, t1, d1⟩ := ih x (.code x) fr s _ s1 ρ w a (.inBlock i :: k) (.inl rfl) hr hfree ht hd g1
            have hk2 : exitTo i k' = some k := by rw [hk']; simp [exitTo]
            exact ⟨ρ1, a1, w1, Steps.head f_block (Steps.trans r1 (.one (f_exit hk2))), e1, rel1, t1, d1⟩
          · rename_i hi
            have hi := beq_false hi
            obtain ⟨rfl, rfl⟩ := ret_some h
            obtain ⟨ρ1, a1, w1, ⟨k', r1, hk'⟩, e1, rel1, t1, d1⟩ := ih x (.code x) fr s _ s1 ρ w a (.inBlock id :: k) (.inl rfl) hr hfree ht hd g1
            have hk2 : exitTo i k' = exitTo i k := by
              rw [hk']
              have : (id == i) = false := by simpa using fun e => hi e.symm
              simp [exitTo, this]
            exact ⟨ρ1, a1, w1, ⟨k', Steps.head f_block r1, hk2⟩, e1, rel1, t1, d1⟩
        | ret =>
          simp only at h
          obtain ⟨rfl, rfl⟩ := ret_some h
          obtain ⟨ρ1, a1, w1, ⟨k', r1⟩, e1, rel1, t1, d1⟩ := ih x (.code x) fr s _ s1 ρ w a (.inBlock id :: k) (.inl rfl) hr hfree ht hd g1
          exact ⟨ρ1, a1, w1, ⟨k', Steps.head f_block r1⟩, e1, rel1, t1, d1⟩
      · cases e
    | loop x =>
      have hst : step P (lone (fat b a (it :: k)) cs w) = .next (lone (fat b a (.code x :: .inLoop x :: k)) cs w) := by
        rcases hit with rfl | ⟨y, e, rfl⟩
        · exact f_loop
        · cases e; exact f_inLoop
      unfold codeA at h
      replace h := bnd_some h; obtain ⟨⟨o1, fr1⟩, s1, g1, h⟩ := h
      have m1 := (gc x fr).mono g1
      cases o1 with
      | norm =>
        simp only at h
        have m2 := (gc (.loop x) fr1).mono h
        obtain ⟨ρ1, a1, w1, r1, e1, rel1, t1, d1⟩ := ih x (.code x) fr s _ s1 ρ w a (.inLoop x :: k) (.inl rfl) hr (fun k h1 h2 => hfree k h1 (by have := m2.1; omega)) ht hd g1
        obtain ⟨ρ2, a2, w2, r2, e2, rel2, t2, d2⟩ := ih (.loop x) (.inLoop x) fr1 s1 _ s' ρ1 w1 a1 k (.inr ⟨x, rfl, rfl⟩) rel1 (fun k h1 h2 => by rw [e1.2 k (by omega)]; exact hfree k (by have := m1.1; omega) h2) t1 d1 h
        exact ⟨ρ2, a2, w2, r2.of_steps (Steps.head hst r1), e1.trans e2 m1.1 m2.1, rel2, t2, d2⟩
      | exit i =>
        simp only at h
        obtain ⟨rfl, rfl⟩ := ret_some h
        obtain ⟨ρ1, a1, w1, ⟨k', r1, hk'⟩, e1, rel1, t1, d1⟩ := ih x (.code x) fr s _ s1 ρ w a (.inLoop x :: k) (.inl rfl) hr hfree ht hd g1
        exact ⟨ρ1, a1, w1, ⟨k', Steps.head hst r1, hk'⟩, e1, rel1, t1, d1⟩
      | ret =>
        simp only at h
        obtain ⟨rfl, rfl⟩ := ret_some h
        obtain ⟨ρ1, a1, w1, ⟨k', r1⟩, e1, rel1, t1, d1⟩ := ih x (.code x) fr s _ s1 ρ w a (.inLoop x :: k) (.inl rfl) hr hfree ht hd g1
        exact ⟨ρ1, a1, w1, ⟨k', Steps.head hst r1⟩, e1, rel1, t1, d1⟩
    | exit id =>
      rcases hit with rfl | ⟨x, e, _⟩
      · unfold codeA at h
        obtain ⟨rfl, rfl⟩ := ret_some h
        exact ⟨ρ, a, w, ⟨k, Steps.refl _ _, rfl⟩, Ext.refl _ _ _, hr, ht, hd⟩
      · cases e
    | ret =>
      rcases hit with rfl | ⟨x, e, _⟩
      · unfold codeA at h
        obtain ⟨rfl, rfl⟩ := ret_some h
        exact ⟨ρ, a, w, ⟨k, Steps.refl _ _⟩, Ext.refl _ _ _, hr, ht, hd⟩
      · cases e
    | rangeFunc g ps as body =>
      rcases hit with rfl | ⟨x, e, _⟩
      · unfold codeA at h
        simp only at h
        have hg := ev_conc ht g
        split at h
        · rename_i fh first cap hev
          have hro := hb rfl
          rw [hev] at hg
          obtain ⟨XS, YS, hXS, hYS, hX⟩ := func_conc hg
          replace h := bnd_some h; obtain ⟨d, s1, g1, h⟩ := h
          replace h := bnd_some h; obtain ⟨l, s2, g2, h⟩ := h
          replace h := bnd_some h; obtain ⟨v, s3, g3, h⟩ := h
          replace h := bnd_some h; obtain ⟨o, s4, g4, h⟩ := h
          obtain ⟨rfl, hh1, hn1, _⟩ := newO_some g1
          obtain ⟨rfl, hh2, hn2, _⟩ := newO_some g2
          have m3 := (hcf.good _ _ _).mono g3
          obtain ⟨ho4, hrd4⟩ := getO_some g4
          split at h
          · rename_i n4 t4 ps4 as4 body4 st
            replace h := bnd_some h; obtain ⟨u, s5, g5, h⟩ := h
            obtain ⟨_, hh5, hn5⟩ := setO_some g5
            have hend : s5 = s' ∧ r.2 = { fr with ds := s.nx :: fr.ds } ∧ (st = .ready ∧ r.1 = .norm ∨ st = .done r.1) := by
              cases st with
              | ready => simp only at h; obtain ⟨rfl, rfl⟩ := ret_some h; exact ⟨rfl, rfl, .inl ⟨rfl, rfl⟩⟩
              | done o => simp only at h; obtain ⟨rfl, rfl⟩ := ret_some h; exact ⟨rfl, rfl, .inr rfl⟩
              | busy => exact (fail_some h).elim
              | over => exact (fail_some h).elim
            obtain ⟨rfl, hr2, hst⟩ := hend
            have m3' := m3.1
            have n4 := hrd4.2
            have hf1 : ρ s.nx = none := hfree s.nx (Nat.le_refl _) (by omega)
            have hf2 : ρ (s.nx + 1) = none := hfree (s.nx + 1) (by omega) (by omega)
            have rel1 := hr.fresh hf1 .defd (.deferred (some [])) ⟨_, setR_same _ _ _, World.alloc_heap_new _ _⟩
            have hsz1 : (w.alloc (.deferred (some []))).heap.size = w.heap.size + 1 := by show (w.heap.push _).size = _; simp
            have hf2' : setR ρ s.nx ⟨w.heap.size, 0, 0⟩ (s.nx + 1) = none := by rw [setR_other _ _ (by omega)]; exact hf2
            have le1 : Le ρ (setR ρ s.nx ⟨w.heap.size, 0, 0⟩) := setR_le _ hf1
            have le2 := setR_le ⟨(w.alloc (.deferred (some []))).heap.size, 0, 0⟩ hf2'
            have rel2 := rel1.fresh (i := s.nx + 1) hf2' (.loop n fr.t ps.toList as body .ready) (.loop { state := .ready, pending := none, fn := b.fn, tmps := a.tmps, params := ps, assign := as, body, defers := w.heap.size })
              ⟨_, _, setR_same _ _ _, ht.mono (le1.trans le2), rfl, rfl, rfl, ⟨rfl, rfl⟩, World.alloc_heap_new _ _⟩
            generalize hρ2 : setR (setR ρ s.nx ⟨w.heap.size, 0, 0⟩) (s.nx + 1) ⟨(w.alloc (.deferred (some []))).heap.size, 0, 0⟩ = ρ2 at rel2 le2
            have hl2 : ρ2 (s.nx + 1) = some ⟨w.heap.size + 1, 0, 0⟩ := by rw [← hρ2, setR_same, hsz1]
            have hd2 : ρ2 s.nx = some ⟨w.heap.size, 0, 0⟩ := le2 _ _ (setR_same _ _ _)
            have hoth : ∀ k, k ≠ s.nx → k ≠ s.nx + 1 → ρ2 k = ρ k := fun k h1 h2 => by rw [← hρ2, setR_other _ _ h2, setR_other _ _ h1]
            have hrel2 : Rel B w0 ρ2 s2.h.get ((w.alloc (.deferred (some []))).alloc (.loop { state := .ready, pending := none, fn := b.fn, tmps := a.tmps, params := ps, assign := as, body, defers := w.heap.size })) := by
              rw [hh2, get_set_upd, hh1, get_set_upd, hn1]; exact rel2
            have hargs : concL ρ2 (first ++ (.yield s1.nx :: cap)) = some (XS ++ (.func (.yield (w.heap.size + 1)) #[] #[] :: YS)) :=
              concL_append (concL_mono (le1.trans le2) _ _ hXS) (concL_mk (by rw [hn1]; simp [conc, hl2]) (concL_mono (le1.trans le2) _ _ hYS))
            obtain ⟨fn, hfn, hbody, hnm, hsteps⟩ := hcf.fn g3 hrel2 (fun k h1 h2 => by rw [hoth k (by omega) (by omega)]; exact hfree k (by omega) (by omega)) hargs
            have hinv : ∀ wx, (do let d ← resolve a.eval (rangeCall g (w.heap.size + 1)) 0; invoke d.target d.args : Sem Next).run P wx = .ok (.enter fh (XS ++ (.func (.yield (w.heap.size + 1)) #[] #[] :: YS)).toArray) wx := by
              intro wx
              have hbn : ¬ (fn.body = none) := fun e => by rw [e] at hbody; simp at hbody
              have hnm' : ¬ fn.name = "runtime.NumGoroutine" := by simpa using hnm
              have e1 : XS.toArray ++ #[Value.func (.yield (w.heap.size + 1)) #[] #[]] ++ YS.toArray = (XS ++ (.func (.yield (w.heap.size + 1)) #[] #[] :: YS)).toArray := by
                apply Array.ext'; simp
              rw [← e1]
              simp [resolve, hX, Deferred.ofValue, invoke, callFunc, hfn, hnm', hbn, Result.andThen, Sem.run_bind]
              try rfl
            obtain ⟨ρ3, V, w3, st3, e3, rel3, c3⟩ := hsteps (fat b { a with defers := [{ target := .collected w.heap.size, args := #[] }] ++ a.defers } (.inRangeFunc (w.heap.size + 1) :: k)) cs
            rw [fat_finish_inRangeFunc] at st3
            obtain ⟨p4, L, hp4, hL1, hL2, hL3, hL4, hL5, hL6⟩ := rel3.objs _ _ ho4
            have hp4' : ρ3 (s.nx + 1) = some ⟨w.heap.size + 1, 0, 0⟩ := e3.1 _ _ hl2
            rw [hn1] at hp4
            rw [hp4'] at hp4; cases hp4
            have hnb : L.state ≠ .busy := by
              rcases hst with ⟨rfl, _⟩ | rfl
              · rw [hL5.1]; intro e; cases e
              · rw [hL5.1]; intro e; cases e
            have hpend : L.pending = outCode r.1 := by
              rcases hst with ⟨rfl, h1⟩ | rfl
              · rw [hL5.2, h1]; rfl
              · exact hL5.2
            have hlast := run_endLoop (P := P) hL6 hnb
            have hlive : liveAt s3.h.get s1.nx := ⟨_, ho4, rfl⟩
            have hend := f_endRangeFunc (b := b) (a := { a with defers := [{ target := .collected w.heap.size, args := #[] }] ++ a.defers }) (k := k) (cs := cs) hlast
            have hfirst := f_rangeFunc (P := P) (b := b) (a := a) (k := k) (cs := cs) (w := w) (g := g) (ps := ps) (assign := as) (body := body) (by rw [hro]; exact run_enterLoop_outer _ _ _ _ _) (hinv _)
            have hall := Steps.trans (Steps.head hfirst st3) (.one hend)
            have hrel4 : Rel B w0 ρ3 s5.h.get (w3.putObj (w.heap.size + 1) (.loop { L with state := .exhausted })) := by
              rw [hh5, get_set_upd, hrd4.1]
              refine rel3.upd hlive (by rw [hn1]; exact hp4') rfl rfl rfl (by simp) (fun j hj => World.putObj_heap_other hj) trivial
            refine ⟨ρ3, { a with defers := [{ target := .collected w.heap.size, args := #[] }] ++ a.defers }, _, ?_, ⟨(le1.trans le2).trans e3.1, fun j hj => ?_⟩, hrel4, ?_, ?_⟩
            · cases hr1 : r.1 with
              | norm =>
                have e : (Option.map Item.code L.pending).toList ++ k = k := by rw [hpend, hr1]; rfl
                rw [e] at hall; exact hall
              | exit i =>
                have e : (Option.map Item.code L.pending).toList ++ k = .code (.exit i) :: k := by rw [hpend, hr1]; rfl
                rw [e] at hall; exact ⟨k, hall, rfl⟩
              | ret =>
                have e : (Option.map Item.code L.pending).toList ++ k = .code .ret :: k := by rw [hpend, hr1]; rfl
                rw [e] at hall; exact ⟨k, hall⟩
            · rw [e3.2 j (by omega), hoth j (by omega) (by omega)]
            · rw [hr2]; exact ht.mono ((le1.trans le2).trans e3.1)
            · rw [hr2]; exact ⟨⟨_, e3.1 _ _ hd2, rfl⟩, hd.mono ((le1.trans le2).trans e3.1)⟩
          · exact (fail_some h).elim
        · exact (fail_some h).elim
      · cases e
    | _ => unfold codeA at h; exact (fail_some h).elim
end
end Go.Aex
