/- Calls. -/
import Derived.Test.YtefleapekgbpcaaGreatDoorAexX
set_option linter.unusedVariables false
set_option linter.unusedSimpArgs false
namespace Go.Aex
open Go.RowKit Go.Conc
section
variable {E : Env} {P : Program} {B : Nat} {w0 w : World} {ρ : Ren} {s s' : St} {b : Frame} {a : Act} {k : List Item} {cs : List Frame}
/-! ### results -/
def resF (tm : Array Value) : ResultVar → Sem Value
  | .tmp t => pure (tm.getD t undef)
  | .cell a t => do loadVar t (← asAddr (tm.getD a undef))
theorem results_eq (fn : Func) (tm : Array Value) : results fn tm = (do let vs ← fn.results.mapM (resF tm); pure (if h : vs.size = 1 then vs[0] else .tuple vs)) := by
  unfold results
  congr 2
theorem result_snd (hT : Tab E P) {n : Nat} {t : T AV} {tm : Array Value} {r : ResultVar} {v : AV} (hr : Rel B w0 ρ s.h.get w) (ht : TRel ρ n t tm) (h : Run (resultA E t r) s v s') : Reads s s' ∧ ∃ V, conc ρ v = some V ∧ (resF tm r).run P w = .ok V w := by
  cases r with
  | tmp i =>
    obtain ⟨rfl, rfl⟩ := ret_some h
    exact ⟨.refl _, _, ht.2 i, rfl⟩
  | cell x ty =>
    have hx := ht.2 x
    obtain ⟨h1, V, h2, h3⟩ := load_snd hT hr hx h
    refine ⟨h1, V, h2, ?_⟩
    unfold resultA loadA at h
    simp only at h
    split at h
    · rename_i i o hev
      rw [hev] at hx
      obtain ⟨p, hp, hA⟩ := ptr_conc hx
      rw [hA] at h3
      simp only [resF, hA]
      simpa [Instr.loadAt, Instr.sureAddr, asAddr] using h3
    · exact (fail_some h).elim
theorem results_snd (hT : Tab E P) {n : Nat} {t : T AV} {tm : Array Value} : ∀ (l : List ResultVar) (s s' : St) (vs : List AV), Rel B w0 ρ s.h.get w → TRel ρ n t tm → Run (resultsA E t l) s vs s' → Reads s s' ∧ ∃ VS, concL ρ vs = some VS ∧ (l.mapM (resF tm)).run P w = .ok VS w
  | [], s, s', vs, hr, ht, h => by
    unfold resultsA at h
    obtain ⟨rfl, rfl⟩ := ret_some h
    exact ⟨.refl _, [], by simp [concL], rfl⟩
  | r :: l, s, s', vs, hr, ht, h => by
    unfold resultsA at h
    replace h := bnd_some h; obtain ⟨v, s1, g1, h⟩ := h
    replace h := bnd_some h; obtain ⟨us, s2, g2, h⟩ := h
    obtain ⟨rfl, rfl⟩ := ret_some h
    obtain ⟨rd1, V, c1, e1⟩ := result_snd hT hr ht g1
    obtain ⟨rd2, VS, c2, e2⟩ := results_snd hT l s1 s2 us (by rw [rd1.1]; exact hr) ht g2
    refine ⟨rd1.trans rd2, V :: VS, concL_mk c1 c2, ?_⟩
    simp [List.mapM_cons, Sem.run_bind, e1, e2, Result.andThen]
theorem results_run {fn : Func} {tm : Array Value} {VS : List Value} (h : (fn.results.toList.mapM (resF tm)).run P w = .ok VS w) : (results fn tm).run P w = .ok (match VS with | [V] => V | VS => .tuple VS.toArray) w := by
  rw [results_eq]
  have h2 : (fn.results.mapM (resF tm)).run P w = .ok VS.toArray w := by
    rw [Array.mapM_eq_mapM_toList]
    simp [h]
  rw [Sem.run_bind, h2]
  simp only [Result.andThen, Sem.run_pure]
  congr 1
  match VS with
  | [] => rfl
  | [V] => rfl
  | V :: W :: R => simp
/-! ### arguments -/
theorem argsT_get : ∀ (l : List AV) (i : Nat) (t : T AV) (k : Nat), getA (argsT l i t) k = if i ≤ k then (l[k - i]?).getD (getA t k) else getA t k
  | [], i, t, k => by simp [argsT]
  | v :: l, i, t, k => by
    simp only [argsT]
    rw [argsT_get l (i + 1) (t.set i v) k]
    have hg : getA (t.set i v) k = if k = i then v else getA t k := by
      unfold getA
      rw [T.get_set]
      by_cases e : k = i
      · rw [if_pos e, if_pos e]
      · rw [if_neg e, if_neg e]
    rw [hg]
    rcases Nat.lt_trichotomy k i with h | h | h
    · rw [if_neg (by omega), if_neg (by omega), if_neg (by omega)]
    · subst h; rw [if_neg (by omega), if_pos rfl, if_pos (Nat.le_refl _), Nat.sub_self]; rfl
    · rw [if_pos (by omega), if_neg (by omega), if_pos (by omega), show k - i = (k - (i + 1)) + 1 by omega]
      simp
theorem argsT_rel {args : List AV} {ARGS : List Value} {n : Nat} (h : concL ρ args = some ARGS) (hn : args.length ≤ n) : TRel ρ n (argsT args 0 .nil) (ARGS.toArray ++ Array.replicate (n - ARGS.length) undef) := by
  have hlen := concL_length h
  refine ⟨by simp; omega, fun k => ?_⟩
  rw [argsT_get, if_pos (Nat.zero_le _), Nat.sub_zero]
  have hnil : getA (.nil : T AV) k = undefA := by unfold getA; rw [T.get_nil]
  rw [hnil, Array.getD_eq_getD_getElem?]
  by_cases hk : k < args.length
  · have h1 : args[k]? = some args[k] := List.getElem?_eq_getElem hk
    obtain ⟨V, h2, h3⟩ := concL_get h k _ h1
    rw [h1, Array.getElem?_append_left (by simp; omega)]
    simp [h2, h3]
  · rw [List.getElem?_eq_none (by omega), Array.getElem?_append_right (by simp; omega)]
    simp only [Option.getD_none]
    rw [undef_conc]
    congr 1
    rw [Array.getElem?_replicate]
    split <;> rfl
theorem setParams_snd {n : Nat} : ∀ (ps : List Nat) (args : List AV) (t t' : T AV) (tm : Array Value) (ARGS : List Value), setParams n ps args t = some t' → TRel ρ n t tm → concL ρ args = some ARGS →
    ps.length = ARGS.length ∧ TRel ρ n t' ((ps.zip ARGS).foldl (fun tmps (t, a) => tmps.setIfInBounds t a) tm)
  | [], [], t, t', tm, ARGS, h, ht, hA => by
    simp only [setParams] at h; cases h
    simp only [concL] at hA; cases hA
    exact ⟨rfl, ht⟩
  | p :: ps, v :: vs, t, t', tm, ARGS, h, ht, hA => by
    simp only [setParams] at h
    split at h
    · rename_i hlt
      obtain ⟨V, VS, h1, h2, rfl⟩ := concL_cons hA
      have hput : Run (putA n t (some p) v) ⟨.nil, 0, Ks.emp, Ks.emp⟩ (t.set p v) ⟨.nil, 0, Ks.emp, Ks.emp⟩ := by unfold putA; simp only [hlt]; rfl
      obtain ⟨_, ht1⟩ := put_snd (a := ⟨tm, []⟩) (dst := some p) ht h1 hput
      obtain ⟨h3, h4⟩ := setParams_snd ps vs (t.set p v) t' (tm.setIfInBounds p V) VS h ht1 h2
      exact ⟨by simp [h3], h4⟩
    · cases h
  | [], _ :: _, t, t', tm, ARGS, h, ht, hA => by simp [setParams] at h
  | _ :: _, [], t, t', tm, ARGS, h, ht, hA => by simp [setParams] at h
theorem zip_fold (ps : Array Nat) (L : List Value) (tm : Array Value) : (ps.zip L.toArray).foldl (fun tmps (t, a) => tmps.setIfInBounds t a) tm = (ps.toList.zip L).foldl (fun tmps (t, a) => tmps.setIfInBounds t a) tm := by
  rw [← Array.foldl_toList]
  simp
/-! ### leaving -/
theorem take_goes : ∀ (ds : List Nat) (xs : List Deferred) (s s' : St) (u : Unit) (w : World) (fr : Frame), DRel ρ ds xs → Rel B w0 ρ s.h.get w → Run (takeD ds) s u s' → fr.mode = .returning → fr.defers = xs →
    ∃ w', Steps P (lone fr cs w) (lone { fr with defers := [] } cs w') ∧ s'.nx = s.nx ∧ Rel B w0 ρ s'.h.get w'
  | [], xs, s, s', u, w, fr, hd, hr, h, hm, hx => by
    unfold takeD at h
    obtain ⟨_, rfl⟩ := ret_some h
    cases xs with
    | cons _ _ => exact hd.elim
    | nil =>
      refine ⟨w, ?_, rfl, hr⟩
      have : { fr with defers := [] } = fr := by rw [← hx]
      rw [this]; exact Steps.refl _ _
  | d :: ds, xs, s, s', u, w, fr, hd, hr, h, hm, hx => by
    unfold takeD at h
    replace h := bnd_some h; obtain ⟨o, s1, g1, h⟩ := h
    obtain ⟨ho, hrd⟩ := getO_some g1
    cases xs with
    | nil => exact hd.elim
    | cons x xs =>
      obtain ⟨⟨p, hp, rfl⟩, hd⟩ := hd
      split at h
      · replace h := bnd_some h; obtain ⟨_, s2, g2, h⟩ := h
        obtain ⟨_, hh2, hn2⟩ := setO_some g2
        obtain ⟨q, hq, hheap⟩ := hr.objs _ _ ho
        rw [hp] at hq; cases hq
        have hst : step P (lone fr cs w) = .next (lone { fr with defers := xs } cs (w.putObj p.blk (.deferred none))) := by
          refine step_lone_go ?_
          have := run_takeDeferred (P := P) hheap
          simp [stepG, unwind, hm, hx, Sem.runT_eq, this]
        have hrel : Rel B w0 ρ s2.h.get (w.putObj p.blk (.deferred none)) := by
          rw [hh2, get_set_upd, hrd.1]
          exact hr.upd ⟨_, ho, rfl⟩ hp rfl rfl rfl (by simp) (fun j hj => World.putObj_heap_other hj) trivial
        obtain ⟨w', st, hn, hrel'⟩ := take_goes ds xs s2 s' u _ { fr with defers := xs } hd hrel h hm rfl
        exact ⟨w', Steps.head hst st, by rw [hn, hn2, hrd.2], hrel'⟩
      · exact (fail_some h).elim
theorem f_beginRound {l : Nat} {L : Loop} (hro : b.roundOf = some l) (hl : w.heap[l]? = some (.loop L)) (hs : L.state = .ready) :
    step P (lone (fat b a (.beginRound :: k)) cs w) = .next (lone (fat b a k) cs (w.putObj l (.loop { L with state := .busy }))) := by
  refine step_lone_go ?_
  have := run_beginRound (P := P) hl hs
  simp [stepG, stepG.exec, fat, hro, stepG.apply, Sem.run_bind, this, Result.andThen, Frame.finish]
theorem f_round_end {l : Nat} {L : Loop} {c : Frame} (hro : b.roundOf = some l) (hk : b.kind = .normal) (hl : w.heap[l]? = some (.loop L)) :
    step P (lone (fat b a []) (c :: cs) w) = .next (lone (c.finish (.bool true)) cs (w.putObj l (.loop { L with state := .ready, pending := none }))) := by
  refine step_lone_go ?_
  have := run_endRound (P := P) none hl
  simp only [Option.isNone_none, if_true] at this
  simp [stepG, stepG.exec, fat, hro, Sem.runT_eq, this, doReturn, hk]
theorem f_round_ret {l : Nat} {L : Loop} {c : Frame} (hro : b.roundOf = some l) (hk : b.kind = .normal) (hl : w.heap[l]? = some (.loop L)) :
    step P (lone (fat b a (.code .ret :: k)) (c :: cs) w) = .next (lone (c.finish (.bool false)) cs (w.putObj l (.loop { L with state := .done, pending := some .ret }))) := by
  refine step_lone_go ?_
  have := run_endRound (P := P) (some .ret) hl
  simp at this
  simp [stepG, stepG.exec, fat, hro, Sem.runT_eq, this, doReturn, hk]
theorem f_round_exit {l id : Nat} {L : Loop} {c : Frame} (hro : b.roundOf = some l) (hk : b.kind = .normal) (hl : w.heap[l]? = some (.loop L)) (hx : exitTo id k = none) :
    step P (lone (fat b a (.code (.exit id) :: k)) (c :: cs) w) = .next (lone (c.finish (.bool false)) cs (w.putObj l (.loop { L with state := .done, pending := some (.exit id) }))) := by
  refine step_lone_go ?_
  have := run_endRound (P := P) (some (.exit id)) hl
  simp at this
  simp [stepG, stepG.exec, fat, hro, Sem.runT_eq, this, doReturn, hk, hx]
end
section
variable {E : Env} {P : Program} {B : Nat} {w0 : World}
/-- What is asked of a function's summary: it tells what the function does. -/
structure SumOk (P : Program) (B : Nat) (w0 : World) (g : Nat) (m : List AV → M AV) : Prop where
  good : ∀ args, Aex.Good (m args)
  run : ∀ {args s v s'}, Run (m args) s v s' → ∀ {ρ w ARGS}, Rel B w0 ρ s.h.get w → (∀ k, s.nx ≤ k → k < s'.nx → ρ k = none) → concL ρ args = some ARGS →
    ∃ fn, P.funcs[g]? = some fn ∧ fn.body.isNone = false ∧ (fn.name == "runtime.NumGoroutine") = false ∧ ∀ cs : List Frame, ∃ ρ' V w' fr, Steps P (lone (Frame.enter P g ARGS.toArray .normal) cs w) (lone fr cs w') ∧ fr.fn = g ∧ fr.leaving P w' (.returned V) ∧ Ext ρ ρ' s.nx s'.nx ∧ Rel B w0 ρ' s'.h.get w' ∧ conc ρ' v = some V
/-- A call of a function, up to where it leaves. -/
theorem fn_core (hT : Tab E P) (hsum : ∀ g m, E.sum g = some m → SumOk P B w0 g m) {f : Nat} (hcf : CallsOk P B w0 (callA E f)) {g : Nat} {args : List AV} {s s' : St} {v : AV} (h : Run (callA E (f + 1) false g args) s v s') {ρ : Ren} {w : World} {ARGS : List Value}
    (hr : Rel B w0 ρ s.h.get w) (hfree : ∀ k, s.nx ≤ k → k < s'.nx → ρ k = none) (hA : concL ρ args = some ARGS) :
    ∃ fn, P.funcs[g]? = some fn ∧ fn.body.isNone = false ∧ (fn.name == "runtime.NumGoroutine") = false ∧ ∀ cs : List Frame, ∃ ρ' V w' fr, Steps P (lone (Frame.enter P g ARGS.toArray .normal) cs w) (lone fr cs w') ∧ fr.fn = g ∧ fr.leaving P w' (.returned V) ∧ Ext ρ ρ' s.nx s'.nx ∧ Rel B w0 ρ' s'.h.get w' ∧ conc ρ' v = some V := by
  unfold callA at h
  cases hsm : E.sum g with
  | some m =>
    rw [hsm] at h
    simp only at h
    obtain ⟨s1, h, hs'⟩ := struck_some h
    have hs1 : s'.h = s1.h ∧ s'.nx = s1.nx := by rw [hs']; exact ⟨rfl, rfl⟩
    obtain ⟨fn, h1, h2, h3, h4⟩ := (hsum g m hsm).run h (ρ := ρ) (w := w) (ARGS := ARGS) hr (by rw [hs1.2] at hfree; exact hfree) hA
    refine ⟨fn, h1, h2, h3, fun cs => ?_⟩
    obtain ⟨ρ', V, w', fr, k1, k2, k3, k4, k5, k6⟩ := h4 cs
    exact ⟨ρ', V, w', fr, k1, k2, k3, by rw [hs1.2]; exact k4, by rw [hs1.1]; exact k5, k6⟩
  | none =>
  rw [hsm] at h
  simp only at h
  split at h
  · exact (fail_some h).elim
  · rename_i fn hfn
    obtain ⟨hP, hnm⟩ := hT.fn g fn hfn
    split at h
    · exact (fail_some h).elim
    · rename_i c hbody
      split at h
      · exact (fail_some h).elim
      · rename_i hle
        have hle : args.length ≤ fn.ntmps := Nat.le_of_ble_eq_true hle
        obtain ⟨s1, h, hs'⟩ := struck_some h
        have hs1 : s'.h = s1.h ∧ s'.nx = s1.nx := by rw [hs']; exact ⟨rfl, rfl⟩
        replace h := bnd_some h; obtain ⟨⟨o, fr⟩, s2, g1, h⟩ := h
        refine ⟨fn, hP, by rw [hbody]; rfl, hnm, fun cs => ?_⟩
        have ho : (o = .norm ∨ o = .ret) ∧ Run (bnd (takeD fr.ds) fun _ => bnd (resultsA E fr.t fn.results.toList) fun vs => match vs with
              | [v] => ret v
              | vs => ret (.tuple vs)) s2 v s1 := by
          cases o with
          | norm => exact ⟨.inl rfl, h⟩
          | ret => exact ⟨.inr rfl, h⟩
          | exit i => exact (fail_some h).elim
        obtain ⟨ho, h⟩ := ho
        replace h := bnd_some h; obtain ⟨u, s3, g2, h⟩ := h
        replace h := bnd_some h; obtain ⟨vs, s4, g3, h⟩ := h
        have hlast : s4 = s1 ∧ v = (match vs with | [v] => v | vs => .tuple vs) := by
          split at h
          · obtain ⟨rfl, rfl⟩ := ret_some h; exact ⟨rfl, rfl⟩
          · rename_i hne
            obtain ⟨rfl, rfl⟩ := ret_some h
            refine ⟨rfl, ?_⟩
            split
            · exact absurd rfl (hne _)
            · rfl
        obtain ⟨rfl, hv⟩ := hlast
        let b : Frame := { (default : Frame) with fn := g, kind := .normal }
        have henter : Frame.enter P g ARGS.toArray .normal = fat b ⟨ARGS.toArray ++ Array.replicate (fn.ntmps - ARGS.length) undef, []⟩ [.code c] := by
          simp [Frame.enter, fat, hP, hbody, b]
          rfl
        have gc := (good_codeA E _ hcf.good false fn.ntmps f c ⟨argsT args 0 .nil, []⟩).mono g1
        have gt := (good_takeD fr.ds).mono g2
        have gr := (good_resultsA E fr.t fn.results.toList).mono g3
        obtain ⟨ρ1, a1, w1, r1, e1, rel1, t1, d1⟩ := code_snd (b := b) (cs := cs) hT hcf (rnd := false) (fun _ => rfl) f c (.code c) ⟨argsT args 0 .nil, []⟩ { s with rd := Ks.emp, wr := Ks.emp } _ s2 ρ w ⟨ARGS.toArray ++ Array.replicate (fn.ntmps - ARGS.length) undef, []⟩ [] (.inl rfl) hr
          (fun k h1 h2 => hfree k h1 (by rw [hs1.2]; have := gt.1; have := gr.1; omega)) (argsT_rel hA hle) trivial g1
        have hret : ∃ todo, Steps P (lone (Frame.enter P g ARGS.toArray .normal) cs w) (lone { fat b a1 todo with mode := .returning } cs w1) := by
          rw [henter]
          rcases ho with rfl | rfl
          · exact ⟨[], Steps.trans r1 (.one (stepR_end (b := b) (a := a1) rfl))⟩
          · obtain ⟨k', r1⟩ := r1
            exact ⟨_, Steps.trans r1 (.one (stepR_ret (b := b) (a := a1) rfl))⟩
        obtain ⟨todo, hret⟩ := hret
        obtain ⟨w2, st2, hn2, rel2⟩ := take_goes (P := P) (cs := cs) fr.ds a1.defers s2 s3 u w1 { fat b a1 todo with mode := .returning } d1 rel1 g2 rfl rfl
        obtain ⟨rd, VS, hVS, hrun⟩ := results_snd hT fn.results.toList s3 s4 vs rel2 t1 g3
        refine ⟨ρ1, _, w2, { fat b a1 todo with mode := .returning, defers := [] }, Steps.trans hret st2, rfl, ⟨rfl, rfl, rfl, fn, hP, results_run hrun⟩, ?_, ?_, ?_⟩
        · rw [hs1.2, rd.2, hn2]; exact e1
        · rw [hs1.1, rd.1]; exact rel2
        · rw [hv]
          match vs, VS, hVS with
          | [], VS, hVS => simp only [concL] at hVS; cases hVS; simp [conc, concL]
          | [u], VS, hVS =>
            obtain ⟨x, y, hx, hy, rfl⟩ := concL_cons hVS
            simp only [concL] at hy; cases hy
            exact hx
          | u1 :: u2 :: us, VS, hVS =>
            obtain ⟨x, y, hx, hy, rfl⟩ := concL_cons hVS
            obtain ⟨x2, y2, hx2, hy2, rfl⟩ := concL_cons hy
            simp only [conc]
            rw [hVS]; rfl
/-- A round of a loop over a function. -/
theorem round_core (hT : Tab E P) {f : Nat} (hcf : CallsOk P B w0 (callA E f)) {i : Nat} {args : List AV} {s s' : St} {v : AV} (h : Run (callA E (f + 1) true i args) s v s') {ρ : Ren} {w : World} {ARGS : List Value}
    (hr : Rel B w0 ρ s.h.get w) (hfree : ∀ k, s.nx ≤ k → k < s'.nx → ρ k = none) (hA : concL ρ args = some ARGS) :
    ∃ p L, ρ i = some p ∧ w.heap[p.blk]? = some (.loop L) ∧ L.params.size = ARGS.length ∧ ∀ (c : Frame) (cs : List Frame), ∃ ρ' V w', Steps P (lone (Frame.round p.blk L.fn ((L.params.zip ARGS.toArray).foldl (fun tmps (t, a) => tmps.setIfInBounds t a) L.tmps) L.assign L.body .normal) (c :: cs) w) (lone (c.finish V) cs w') ∧ Ext ρ ρ' s.nx s'.nx ∧ Rel B w0 ρ' s'.h.get w' ∧ conc ρ' v = some V := by
  unfold callA at h
  obtain ⟨s1, h, hs'⟩ := struck_some h
  have hs1 : s'.h = s1.h ∧ s'.nx = s1.nx := by rw [hs']; exact ⟨rfl, rfl⟩
  replace h := bnd_some h; obtain ⟨o, s2, g1, h⟩ := h
  obtain ⟨ho, hrd⟩ := getO_some g1
  split at h
  · rename_i n t ps as body
    obtain ⟨p, L, hp, htm, hps, has, hbd, hst, hheap⟩ := hr.objs _ _ ho
    split at h
    · exact (fail_some h).elim
    · rename_i t1 hset
      obtain ⟨hlen, ht1⟩ := setParams_snd ps args t t1 L.tmps ARGS hset htm hA
      refine ⟨p, L, hp, hheap, by rw [hps]; simpa using hlen, fun c cs => ?_⟩
      have hzip : (L.params.zip ARGS.toArray).foldl (fun tmps (t, a) => tmps.setIfInBounds t a) L.tmps = (ps.zip ARGS).foldl (fun tmps (t, a) => tmps.setIfInBounds t a) L.tmps := by
        rw [zip_fold, hps]
      rw [hzip]
      generalize (ps.zip ARGS).foldl (fun tmps (t, a) => tmps.setIfInBounds t a) L.tmps = tm at ht1
      let b : Frame := { (default : Frame) with fn := L.fn, kind := .normal, roundOf := some p.blk }
      have henter : Frame.round p.blk L.fn tm L.assign L.body .normal = fat b ⟨tm, []⟩ (.code as :: .beginRound :: [.code body]) := by
        rw [← has, ← hbd]; rfl
      rw [henter]
      replace h := bnd_some h; obtain ⟨⟨o1, fr1⟩, s3, g2, h⟩ := h
      have m2 := (good_codeA E _ hcf.good true n f as ⟨t1, []⟩).mono g2
      cases o1 with
      | exit id => exact (fail_some h).elim
      | ret => exact (fail_some h).elim
      | norm =>
        simp only at h
        replace h := bnd_some h; obtain ⟨o3, s4, g3, h⟩ := h
        obtain ⟨ho3, hrd3⟩ := getO_some g3
        split at h
        · rename_i n1 t1' ps1 as1 body1
          replace h := bnd_some h; obtain ⟨_, s5, g4, h⟩ := h
          obtain ⟨_, hh5, hn5⟩ := setO_some g4
          replace h := bnd_some h; obtain ⟨⟨o2, fr2⟩, s6, g5, h⟩ := h
          have m5 := (good_codeA E _ hcf.good true n f body fr1).mono g5
          replace h := bnd_some h; obtain ⟨o6, s7, g6, h⟩ := h
          obtain ⟨ho6, hrd6⟩ := getO_some g6
          split at h
          · rename_i n2 t2 ps2 as2 body2 st2
            simp only at h
            have hfin : ∃ s8, Run (setO i (.loop n2 t2 ps2 as2 body2 (match o2 with | .norm => .ready | o => .done o))) s7 () s8 ∧ s8 = s1 ∧ v = .bool (match o2 with | .norm => true | _ => false) := by
              cases o2 with
              | norm => replace h := bnd_some h; obtain ⟨u, s8, g7, h⟩ := h; obtain ⟨rfl, rfl⟩ := ret_some h; exact ⟨_, g7, rfl, rfl⟩
              | exit id => replace h := bnd_some h; obtain ⟨u, s8, g7, h⟩ := h; obtain ⟨rfl, rfl⟩ := ret_some h; exact ⟨_, g7, rfl, rfl⟩
              | ret => replace h := bnd_some h; obtain ⟨u, s8, g7, h⟩ := h; obtain ⟨rfl, rfl⟩ := ret_some h; exact ⟨_, g7, rfl, rfl⟩
            obtain ⟨s8, g7, rfl, hv⟩ := hfin
            obtain ⟨_, hh8, hn8⟩ := setO_some g7
            have q2 := hrd.2
            have q3 := hrd3.2
            have q6 := hrd6.2
            have m2' := m2.1
            have m5' := m5.1
            have hnx : s2.nx = s.nx := q2
            have hnx3 : s5.nx = s3.nx := by rw [hn5, q3]
            have hnx' : s'.nx = s6.nx := by rw [hs1.2, hn8, q6]
            obtain ⟨ρ1, a1, w1, r1, e1, rel1, tr1, d1⟩ := code_snd (b := b) (cs := c :: cs) hT hcf (rnd := true) (fun e => by cases e) f as (.code as) ⟨t1, []⟩ s2 _ s3 ρ w ⟨tm, []⟩ (.beginRound :: [.code body]) (.inl rfl) (by rw [hrd.1]; exact hr)
              (fun k h1 h2 => hfree k (by omega) (by omega)) ht1 trivial g2
            obtain ⟨p1, L1, hp1, hL1, hL2, hL3, hL4, hL5, hL6⟩ := rel1.objs _ _ ho3
            have hp1' : ρ1 i = some p := e1.1 _ _ hp
            rw [hp1'] at hp1; cases hp1
            have st1 := f_beginRound (P := P) (b := b) (a := a1) (k := [.code body]) (cs := c :: cs) rfl hL6 hL5.1
            have rel2 : Rel B w0 ρ1 s5.h.get (w1.putObj p.blk (.loop { L1 with state := .busy })) := by
              rw [hh5, get_set_upd, hrd3.1]
              have hlt := rel1.blk_lt ⟨_, ho3, rfl⟩ hp1'
              exact rel1.upd ⟨_, ho3, rfl⟩ hp1' rfl rfl rfl (by simp) (fun j hj => World.putObj_heap_other hj) ⟨p, { L1 with state := .busy }, hp1', hL1, hL2, hL3, hL4, rfl, World.putObj_heap_same hlt⟩
            obtain ⟨ρ2, a2, w2, r2, e2, rel3, tr2, d2⟩ := code_snd (b := b) (cs := c :: cs) hT hcf (rnd := true) (fun e => by cases e) f body (.code body) fr1 s5 _ s6 ρ1 _ a1 [] (.inl rfl) rel2
              (fun k h1 h2 => by rw [e1.2 k (by omega)]; exact hfree k (by omega) (by omega)) tr1 d1 g5
            obtain ⟨p2, L2, hp2, hM1, hM2, hM3, hM4, hM5, hM6⟩ := rel3.objs _ _ ho6
            have hp2' : ρ2 i = some p := e2.1 _ _ hp1'
            rw [hp2'] at hp2; cases hp2
            have hlt2 := rel3.blk_lt ⟨_, ho6, rfl⟩ hp2'
            have hext : Ext ρ ρ2 s.nx s'.nx := by
              refine ⟨e1.1.trans e2.1, fun k hk => ?_⟩
              rw [e2.2 k (by omega), e1.2 k (by omega)]
            have hfr : ∀ (L' : Loop) (st : LSt), TRel ρ2 n2 t2 L'.tmps → L'.params = ps2.toArray → L'.assign = as2 → L'.body = body2 → stOk L' st → s8.h = s7.h.set i (.loop n2 t2 ps2 as2 body2 st) → Rel B w0 ρ2 s'.h.get (w2.putObj p.blk (.loop L')) := by
              intro L' st k1 k2 k3 k4 k5 k6
              rw [hs1.1, k6, get_set_upd, hrd6.1]
              exact rel3.upd ⟨_, ho6, rfl⟩ hp2' rfl rfl rfl (by simp) (fun j hj => World.putObj_heap_other hj) ⟨p, _, hp2', k1, k2, k3, k4, k5, World.putObj_heap_same hlt2⟩
            have hpre := Steps.trans r1 (.one st1)
            cases o2 with
            | norm =>
              have st3 := f_round_end (P := P) (b := b) (a := a2) (c := c) (cs := cs) rfl rfl hM6
              exact ⟨ρ2, .bool true, _, Steps.trans hpre (Steps.trans r2 (.one st3)), hext, hfr _ .ready hM1 hM2 hM3 hM4 ⟨rfl, rfl⟩ hh8, by rw [hv]; simp [conc]⟩
            | exit id =>
              obtain ⟨k', r2, hk'⟩ := r2
              have st3 := f_round_exit (P := P) (b := b) (a := a2) (c := c) (cs := cs) (k := k') (id := id) rfl rfl hM6 (by rw [hk']; rfl)
              exact ⟨ρ2, .bool false, _, Steps.trans hpre (Steps.trans r2 (.one st3)), hext, hfr _ (.done (.exit id)) hM1 hM2 hM3 hM4 ⟨rfl, rfl⟩ hh8, by rw [hv]; simp [conc]⟩
            | ret =>
              obtain ⟨k', r2⟩ := r2
              have st3 := f_round_ret (P := P) (b := b) (a := a2) (c := c) (cs := cs) (k := k') rfl rfl hM6
              exact ⟨ρ2, .bool false, _, Steps.trans hpre (Steps.trans r2 (.one st3)), hext, hfr _ (.done .ret) hM1 hM2 hM3 hM4 ⟨rfl, rfl⟩ hh8, by rw [hv]; simp [conc]⟩
          · exact (fail_some h).elim
        · exact (fail_some h).elim
  · exact (fail_some h).elim
theorem callsOk (hT : Tab E P) (hsum : ∀ g m, E.sum g = some m → SumOk P B w0 g m) : ∀ f, CallsOk P B w0 (callA E f)
  | 0 => by
    refine ⟨fun b g args => good_callA E (fun g m hm => (hsum g m hm).good) 0 b g args, ?_, ?_⟩
    · intro g args s v s' h
      unfold callA at h; exact (fail_some h).elim
    · intro g args s v s' h
      unfold callA at h; exact (fail_some h).elim
  | f + 1 => by
    refine ⟨fun b g args => good_callA E (fun g m hm => (hsum g m hm).good) (f + 1) b g args, ?_, ?_⟩
    · intro g args s v s' h ρ w ARGS hr hfree hA
      obtain ⟨fn, h1, h2, h3, h4⟩ := fn_core hT hsum (callsOk hT hsum f) h hr hfree hA
      refine ⟨fn, h1, h2, h3, fun c cs => ?_⟩
      obtain ⟨ρ', V, w', fr, k1, _, k2, k3, k4, k5⟩ := h4 (c :: cs)
      exact ⟨ρ', V, w', Steps.trans k1 (.one (step_leave_returned k2)), k3, k4, k5⟩
    · intro g args s v s' h ρ w ARGS hr hfree hA
      exact round_core hT (callsOk hT hsum f) h hr hfree hA
/-- A run whose arguments the executor knows, or need not look at. -/
theorem closed_run (hT : Tab E P) {f g : Nat} {v : AV} {V : Value} {s' : St} {args : List AV} {ARGS : List Value} (h : callA E f false g args ⟨.nil, 0, Ks.emp, Ks.emp⟩ = some (v, s')) (hv : conc ren0 v = some V) (hA : concL ren0 args = some ARGS) (w : World) (hsum : ∀ g m, E.sum g = some m → SumOk P w.heap.size w g m) :
    Calls P g ARGS.toArray w (fun e w' => e = .returned V ∧ Below w.heap.size w w') := by
  intro cs
  cases f with
  | zero => unfold callA at h; exact (fail_some (s := ⟨.nil, 0, Ks.emp, Ks.emp⟩) (s' := s') (x := v) h).elim
  | succ f =>
    have hrel : Rel w.heap.size w ren0 (T.nil : T AObj).get w := ⟨Below.refl _ _, Nat.le_refl _, fun i o e => (by rw [T.get_nil] at e; cases e), fun i j p q _ _ e => (by cases e), fun i p _ e => (by cases e)⟩
    obtain ⟨fn, h1, h2, h3, h4⟩ := fn_core (B := w.heap.size) (w0 := w) hT hsum (callsOk hT hsum f) (s := ⟨.nil, 0, Ks.emp, Ks.emp⟩) h hrel (fun _ _ _ => rfl) hA
    obtain ⟨ρ', V', w', fr, k1, k2, k3, k4, k5, k6⟩ := h4 cs
    have := conc_ren0 (ρ := ρ') hv
    rw [k6] at this; cases this
    exact ⟨.returned _, w', fr, ⟨rfl, k5.bel⟩, k1, k2, k3⟩
end
end Go.Aex
