/- One operation, in its place in a region. -/
import Derived.Test.YtefleapekgbpcaaGreatDoorAexQ
import Derived.Test.YtefleapekgbpcaaGreatDoorAexH
import Derived.Conc.LoneSelect
set_option linter.unusedVariables false
set_option linter.unusedSimpArgs false
namespace Go.Aex
open Go.RowKit Go.Conc
/-- What is known of the calls that an operation may make. -/
structure CallsOk (P : Program) (B : Nat) (w0 : World) (cf : Bool → Nat → List AV → M AV) : Prop where
  good : ∀ b g args, Aex.Good (cf b g args)
  fn : ∀ {g args s v s'}, Run (cf false g args) s v s' → ∀ {ρ w ARGS}, Rel B w0 ρ s.h.get w → (∀ k, s.nx ≤ k → k < s'.nx → ρ k = none) → concL ρ args = some ARGS →
    ∃ fn, P.funcs[g]? = some fn ∧ fn.body.isNone = false ∧ (fn.name == "runtime.NumGoroutine") = false ∧ ∀ (c : Frame) (cs : List Frame), ∃ ρ' V w', Steps P (lone (Frame.enter P g ARGS.toArray .normal) (c :: cs) w) (lone (c.finish V) cs w') ∧ Ext ρ ρ' s.nx s'.nx ∧ Rel B w0 ρ' s'.h.get w' ∧ conc ρ' v = some V
  round : ∀ {i args s v s'}, Run (cf true i args) s v s' → ∀ {ρ w ARGS}, Rel B w0 ρ s.h.get w → (∀ k, s.nx ≤ k → k < s'.nx → ρ k = none) → concL ρ args = some ARGS →
    ∃ p L, ρ i = some p ∧ w.heap[p.blk]? = some (.loop L) ∧ L.params.size = ARGS.length ∧ ∀ (c : Frame) (cs : List Frame), ∃ ρ' V w', Steps P (lone (Frame.round p.blk L.fn ((L.params.zip ARGS.toArray).foldl (fun tmps (t, a) => tmps.setIfInBounds t a) L.tmps) L.assign L.body .normal) (c :: cs) w) (lone (c.finish V) cs w') ∧ Ext ρ ρ' s.nx s'.nx ∧ Rel B w0 ρ' s'.h.get w' ∧ conc ρ' v = some V
section
variable {E : Env} {P : Program} {B : Nat} {w0 w : World} {ρ : Ren} {s s' : St} {b : Frame} {a : Act} {k : List Item} {cs : List Frame} {ops : Array Oper}
theorem func_conc {fn : Fn} {x y : List AV} {X : Value} (h : conc ρ (.func fn x y) = some X) : ∃ XS YS, concL ρ x = some XS ∧ concL ρ y = some YS ∧ X = .func fn XS.toArray YS.toArray := by
  simp only [conc] at h
  split at h
  · rename_i u v hu hv; cases h; exact ⟨u, v, hu, hv, rfl⟩
  · cases h
theorem opA_defer {cf : Bool → Nat → List AV → M AV} {t : T AV} {op : Op} {v : AV} (h : Run (opA E cf t op) s v s') : isDefer op = false := by
  cases op <;> first | rfl | (unfold opA at h; exact (fail_some h).elim)
theorem upd_chan {h : Hp} (hr : Rel B w0 ρ h w) {i : Nat} {p : Pl} {cap s r s2 r2 : Nat} {buf buf' : List AV} {A : Array Value} {L' : List Value} (hi : h i = some (.chan cap buf s r)) (hp : ρ i = some p) (hL : concL ρ buf' = some L') :
    Rel B w0 ρ (Aex.upd h i (.chan cap buf' s2 r2)) (w.setChan p.blk cap L'.toArray false s2 r2 false) := by
  have hlive : liveAt h i := ⟨_, hi, rfl⟩
  have hlt := hr.blk_lt hlive hp
  refine hr.upd hlive hp rfl rfl rfl (by simp [World.setChan]) (fun b hne => ?_) ⟨p, L', hp, hL, ?_⟩
  · show (w.heap.setIfInBounds p.blk _)[b]? = _
    rw [Array.getElem?_setIfInBounds_ne (fun e => hne e.symm)]
  · show (w.heap.setIfInBounds p.blk _)[p.blk]? = _
    rw [Array.getElem?_setIfInBounds_self_of_lt hlt]
theorem f_op_comm {i : Nat} {rest : List Nat} {o : Oper} {ccs : Array CommCase} {bl : Bool} {sh : CommShape} {w' : World} (ho : ops[i]? = some o) (hw : Region.wanted o (yielded ops a.tmps) = true) (hd : isDefer o.op = false)
    (hr : (execOp a.eval o).run P w = .ok (.comm ccs bl sh) w') :
    ∃ es, stepG P true (G (fat b a (.inRegion ops (i :: rest) :: k)) cs) w = .comm (G (fat b a (.inRegion ops (i :: rest) :: k)) cs) ccs bl sh w' es := by
  have := f_op (b := b) (k := k) (cs := cs) (w := w) (P := P) (rest := rest) ho hw hd
  have hb : (stepG P true (G (fat b a (.inRegion ops (i :: rest) :: k)) cs) w).bare = .comm (G (fat b a (.inRegion ops (i :: rest) :: k)) cs) ccs bl sh w' := by
    show (stepG P true { frame := _, callers := _, status := _, dying := _ } w).bare = _
    rw [this]
    simp [stepG.apply, hr, G]
  generalize stepG P true (G (fat b a (.inRegion ops (i :: rest) :: k)) cs) w = x at hb
  cases x <;> simp [GStep.bare] at hb
  obtain ⟨rfl, rfl, rfl, rfl, rfl⟩ := hb
  exact ⟨_, rfl⟩
/-- The machine makes the step that the executor makes. -/
def Goes1 (P : Program) (B : Nat) (w0 : World) (ρ : Ren) (s s' : St) (w : World) (b : Frame) (a : Act) (ops : Array Oper) (i : Nat) (rest : List Nat) (k : List Item) (cs : List Frame) (dst : Option Tmp) (v : AV) : Prop :=
  ∃ ρ' V w', Steps P (lone (fat b a (.inRegion ops (i :: rest) :: k)) cs w) (lone (fat b (a.put dst V) (.inRegion ops rest :: k)) cs w') ∧ Ext ρ ρ' s.nx s'.nx ∧ Rel B w0 ρ' s'.h.get w' ∧ conc ρ' v = some V
theorem op_goes (hT : Tab E P) {cf : Bool → Nat → List AV → M AV} (hcf : CallsOk P B w0 cf) {n i : Nat} {rest : List Nat} {t : T AV} {o : Oper} {v : AV} (hr : Rel B w0 ρ s.h.get w) (hfree : ∀ k, s.nx ≤ k → k < s'.nx → ρ k = none) (ht : TRel ρ n t a.tmps)
    (ho : ops[i]? = some o) (hw : Region.wanted o (yielded ops a.tmps) = true) (h : Run (opA E cf t o.op) s v s') : Goes1 P B w0 ρ s s' w b a ops i rest k cs o.dst v := by
  have hd := opA_defer h
  have hfin : ∀ v, (fat b a (.inRegion ops (i :: rest) :: k)).finish v = fat b (a.put o.dst v) (.inRegion ops rest :: k) := by
    intro v; rw [fat_finish, ho]; rfl
  cases hc : isCall o.op with
  | false =>
    obtain ⟨ρ', V, w', hrun, h2, h3, h4⟩ := op_snd hT hr hfree ht hc h
    exact ⟨ρ', V, w', .one (f_op_value ho hw hd hrun), h2, h3, h4⟩
  | true =>
    cases hop : o.op <;> (try (simp [isCall, hop] at hc; done))
    case call c =>
      rw [hop] at h
      unfold opA at h
      simp only at h
      have hargs := evs_conc ht c.args.toList
      split at h
      · rename_i bb hb; simp [isCall, hop, hb] at hc
      · rename_i f hb
        have hf := ev_conc ht f
        split at h
        · rename_i g first cap hev
          rw [hev] at hf
          obtain ⟨XS, YS, hXS, hYS, hX⟩ := func_conc hf
          obtain ⟨fn, hfn, hbody, hnm, hsteps⟩ := hcf.fn h hr hfree (concL_append hXS (concL_append hargs hYS))
          have hrun : (execOp a.eval o).run P w = .ok (.enter g (XS ++ (c.args.toList.map a.eval ++ YS)).toArray) w := by
            have e1 : XS.toArray ++ c.args.map a.eval ++ YS.toArray = (XS ++ (c.args.toList.map a.eval ++ YS)).toArray := by
              apply Array.ext'; simp
            have hbn : ¬ (fn.body = none) := fun e => by rw [e] at hbody; simp at hbody
            have hnm' : ¬ fn.name = "runtime.NumGoroutine" := by simpa using hnm
            simp [execOp, hop, resolve, hb, hX, Deferred.ofValue, invoke, callFunc, hfn, hnm', hbn, ← e1]
          obtain ⟨ρ', V, w', h1, h2, h3, h4⟩ := hsteps (fat b a (.inRegion ops (i :: rest) :: k)) cs
          rw [hfin] at h1
          exact ⟨ρ', V, w', Steps.head (f_op_enter ho hw hd hrun) h1, h2, h3, h4⟩
        · rename_i l hev
          rw [hev] at hf
          obtain ⟨p, L, hp, hL, hsz, hsteps⟩ := hcf.round h hr hfree hargs
          simp only [conc, hp, Option.map_some, Option.some.injEq] at hf
          have hrun : (execOp a.eval o).run P w = .ok (.round p.blk L.fn ((L.params.zip (c.args.toList.map a.eval).toArray).foldl (fun tmps (t, a) => tmps.setIfInBounds t a) L.tmps) L.assign L.body) w := by
            have e1 : #[] ++ c.args.map a.eval ++ #[] = (c.args.toList.map a.eval).toArray := by
              apply Array.ext'; simp
            have hgo : (getObj p.blk).run P w = .ok (.loop L) w := by simp [getObj, Sem.run, hL]
            have hsz' : c.args.size = L.params.size := by rw [hsz]; simp
            have hsz2 : ¬ ((c.args.map a.eval).size ≠ L.params.size) := by simp [hsz']
            have e2 : (c.args.toList.map a.eval).toArray = c.args.map a.eval := by apply Array.ext'; simp
            rw [e2]
            simp [execOp, hop, resolve, hb, ← hf, Deferred.ofValue, invoke, Instr.yield, Instr.getLoop, hgo, hsz']
          obtain ⟨ρ', V, w', h1, h2, h3, h4⟩ := hsteps (fat b a (.inRegion ops (i :: rest) :: k)) cs
          rw [hfin] at h1
          exact ⟨ρ', V, w', Steps.head (f_op_round ho hw hd hrun) h1, h2, h3, h4⟩
        · exact (fail_some h).elim
      · exact (fail_some h).elim
    case select sc bl =>
      rw [hop] at h
      unfold opA at h
      simp only at h
      unfold selectA at h
      split at h
      · rename_i c hsc
        have hsc' : sc = #[c] := by apply Array.ext'; simpa using hsc
        subst hsc'
        have hch := ev_conc ht c.chan
        split at h
        · rename_i j x hev hsend
          rw [hev] at hch
          replace h := bnd_some h; obtain ⟨te, s1, g1, h⟩ := h
          obtain ⟨hte, rfl⟩ := tyOf_some g1
          obtain ⟨z, hz, hzr⟩ := run_zeroValue_of (w := w) (hT.ty _ te hte)
          replace h := bnd_some h; obtain ⟨oj, s2, g2, h⟩ := h
          obtain ⟨hoj, hrd⟩ := getO_some g2
          split at h
          · rename_i cap buf sent rcvd
            obtain ⟨p, L, hp, hL, hb⟩ := hr.objs j _ hoj
            simp only [conc, hp, Option.map_some, Option.some.injEq] at hch
            have hx := ev_conc ht x
            have hlen := concL_length hL
            have hrun : (execOp a.eval o).run P w = .ok (.comm #[scase p.blk (a.eval x) z] false .select) w := by
              simp [execOp, hop, ← hch, hsend, hzr, scase]
            have hst : ∃ es, stepG P true (G (fat b a (.inRegion ops (i :: rest) :: k)) cs) w = .comm (G (fat b a (.inRegion ops (i :: rest) :: k)) cs) #[scase p.blk (a.eval x) z] false .select w es := f_op_comm ho hw hd hrun
            obtain ⟨es, hst⟩ := hst
            split at h
            · rename_i hroom
              have hroom := blt_true hroom
              rw [strictN_eq] at h
              replace h := bnd_some h; obtain ⟨u, s3, g3, h⟩ := h
              obtain ⟨_, hs3, hn3⟩ := setO_some g3
              obtain ⟨rfl, rfl⟩ := ret_some h
              have hstep := step_lone_select_send_room hst hb (by simp [hlen]; exact hroom)
              rw [hfin] at hstep
              have hrel := upd_chan (s2 := sent + 1) (r2 := rcvd) (buf' := buf ++ [ev t x]) (L' := L ++ [a.eval x]) (A := L.toArray) hr hoj hp (concL_append hL (concL_mk hx (by simp [concL])))
              refine ⟨ρ, _, _, .one (by rw [lone_eq_solo, hstep]; rfl), Ext.refl _ _ _, ?_, by simp [conc, concL, goInt]⟩
              rw [hs3, hrd.1, get_set_upd]
              simpa using hrel
            · rename_i hroom
              have hroom := blt_false hroom
              obtain ⟨rfl, rfl⟩ := ret_some h
              have hstep := step_lone_select_send_full hst hb (by simp [hlen]; omega)
              rw [hfin] at hstep
              exact ⟨ρ, _, _, .one (by rw [lone_eq_solo, hstep]; rfl), Ext.refl _ _ _, by rw [hrd.1]; exact hr, by simp [conc, concL, goInt]⟩
          · exact (fail_some h).elim
        · rename_i j hev hsend
          rw [hev] at hch
          replace h := bnd_some h; obtain ⟨te, s1, g1, h⟩ := h
          obtain ⟨hte, rfl⟩ := tyOf_some g1
          obtain ⟨z, hz, hzr⟩ := run_zeroValue_of (w := w) (hT.ty _ te hte)
          have hz' := conc_ren0 (ρ := ρ) hz
          replace h := bnd_some h; obtain ⟨oj, s2, g2, h⟩ := h
          obtain ⟨hoj, hrd⟩ := getO_some g2
          split at h
          · rename_i cap buf sent rcvd
            obtain ⟨p, L, hp, hL, hb⟩ := hr.objs j _ hoj
            simp only [conc, hp, Option.map_some, Option.some.injEq] at hch
            have hrun : (execOp a.eval o).run P w = .ok (.comm #[rcase p.blk z] false .select) w := by
              simp [execOp, hop, ← hch, hsend, hzr, rcase]
            have hst : ∃ es, stepG P true (G (fat b a (.inRegion ops (i :: rest) :: k)) cs) w = .comm (G (fat b a (.inRegion ops (i :: rest) :: k)) cs) #[rcase p.blk z] false .select w es := f_op_comm ho hw hd hrun
            obtain ⟨es, hst⟩ := hst
            split at h
            · rename_i u rst
              obtain ⟨U, R, hU, hR, rfl⟩ := concL_cons hL
              rw [strictN_eq] at h
              replace h := bnd_some h; obtain ⟨u', s3, g3, h⟩ := h
              obtain ⟨_, hs3, hn3⟩ := setO_some g3
              obtain ⟨rfl, rfl⟩ := ret_some h
              have hstep := step_lone_select_recv_buf hst hb (by simp)
              rw [hfin] at hstep
              have hrel := upd_chan (s2 := sent) (r2 := rcvd + 1) (buf' := rst) (L' := R) (A := (U :: R).toArray) hr hoj hp hR
              refine ⟨ρ, .tuple #[goInt 0, .bool true, U], _, .one (by rw [lone_eq_solo, hstep]; rfl), Ext.refl _ _ _, ?_, by simp [conc, concL, goInt, hU]⟩
              rw [hs3, hrd.1, get_set_upd]
              have e : (U :: R).toArray.extract 1 (U :: R).toArray.size = R.toArray := by simp
              rw [e]
              exact hrel
            · simp only [concL] at hL; cases hL
              obtain ⟨rfl, rfl⟩ := ret_some h
              have hstep := step_lone_select_default hst hb
              rw [hfin] at hstep
              exact ⟨ρ, _, _, .one (by rw [lone_eq_solo, hstep]; rfl), Ext.refl _ _ _, by rw [hrd.1]; exact hr, by simp [conc, concL, goInt, hz']⟩
          · exact (fail_some h).elim
        · exact (fail_some h).elim
      · exact (fail_some h).elim
end
end Go.Aex
