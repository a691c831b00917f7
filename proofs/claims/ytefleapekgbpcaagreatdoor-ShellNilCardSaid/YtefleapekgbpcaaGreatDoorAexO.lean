/- The executor's operations hold of the program's machine: maps. -/
import Derived.Test.YtefleapekgbpcaaGreatDoorAexN
set_option linter.unusedVariables false
set_option linter.unusedSimpArgs false
namespace Go.Aex
open Go.RowKit
section
variable {E : Env} {P : Program} {B : Nat} {w0 w : World} {ρ : Ren} {s s' : St}
theorem run_checkKey_struct (e : Bool) (n : Nat) (t : TypeId) (xs : Array Value) {fs : Array Field} (ht : P.underlying t = some (.struct fs)) (hk : ∀ f ∈ fs.toList, ∃ v, (part f.type xs f.offset).run P w = .ok v w ∧ (Instr.checkKey e n f.type v).run P w = .ok () w) :
    (Instr.checkKey e (n + 1) t (.agg xs)).run P w = .ok () w := by
  simp only [Instr.checkKey, Sem.run_bind, run_underlying_of ht, Result.andThen_ok]
  rw [← Array.forIn_toList]
  generalize fs.toList = l at hk
  clear ht
  induction l with
  | nil => simp
  | cons f l ih =>
    obtain ⟨v, h1, h2⟩ := hk f (List.mem_cons_self ..)
    have ih := ih (fun g hg => hk g (List.mem_cons_of_mem _ hg))
    simp only [List.forIn_cons, Sem.run_bind]
    split
    · simp only [Sem.run_bind, h1, h2, Result.andThen_ok, Sem.run_pure]
      exact ih
    · simp only [Sem.run_pure, Result.andThen_ok]
      exact ih
mutual
theorem keyT_snd (hT : Tab E P) (e : Bool) : ∀ (d t : Nat) (x : AV) (X : Value), conc ρ x = some X → keyT E d t x = true → ∀ D, d ≤ D → (Instr.checkKey e D t X).run P w = .ok () w
  | 0, t, x, X, hx, h, D, hD => by simp only [keyT] at h; cases h
  | d + 1, t, x, X, hx, h, D, hD => by
    obtain ⟨D, rfl⟩ : ∃ k, D = k + 1 := ⟨D - 1, by omega⟩
    simp only [keyT] at h
    split at h
    · cases h
    · rename_i ti hti
      have hty := hT.ty t ti hti
      split at h
      · rename_i fs xs hd
        obtain ⟨XS, hXS, rfl⟩ := agg_conc hx
        have hu := hty.under
        rw [hd] at hu
        exact run_checkKey_struct e D t _ hu (keyF_snd hT e d fs.toList xs XS hXS h D (by omega))
      · rename_i k k' n hd
        obtain rfl := int_conc hx
        simp [Instr.checkKey, run_underlying_of hty.under, hd]
      · rename_i l hd
        obtain rfl := str_conc hx
        simp [Instr.checkKey, run_underlying_of hty.under, hd]
      · rename_i b hd
        obtain rfl := bool_conc hx
        simp [Instr.checkKey, run_underlying_of hty.under, hd]
      · cases h
theorem keyF_snd (hT : Tab E P) (e : Bool) : ∀ (d : Nat) (fs : List Field) (xs : List AV) (XS : List Value), concL ρ xs = some XS → keyF E d fs xs = true → ∀ D, d ≤ D → ∀ f ∈ fs, ∃ v, (part f.type XS.toArray f.offset).run P w = .ok v w ∧ (Instr.checkKey e D f.type v).run P w = .ok () w
  | 0, fs, xs, XS, hx, h, D, hD => by simp only [keyF] at h; cases h
  | d + 1, [], xs, XS, hx, h, D, hD => fun f hf => by cases hf
  | d + 1, g :: fs, xs, XS, hx, h, D, hD => by
    simp only [keyF] at h
    split at h
    · rename_i u hu
      split at h
      · rename_i hk
        obtain ⟨U, hU, hur⟩ := part_snd (w := w) hT hx hu
        intro f hf
        rcases List.mem_cons.1 hf with rfl | hf
        · exact ⟨U, hur, keyT_snd hT e d _ u U hU hk D (by omega)⟩
        · exact keyF_snd hT e d fs xs XS hx h D (by omega) f hf
      · cases h
    · cases h
end
theorem findAsking_snd (hT : Tab E P) {kt : Nat} {k : AV} {K : Value} (hk : conc ρ k = some K) : ∀ (es : List (AV × AV × Nat)) (ES : List MapEntry) (i : Nat) (r : Option (Nat × AV)), concE ρ es = some ES → findA E kt k es i = some r →
    ∃ R : Option (Nat × Value), (Instr.findAsking kt K ES i).run P w = .ok R w ∧ (r = none → R = none) ∧ (∀ j v, r = some (j, v) → ∃ V, R = some (j, V) ∧ conc ρ v = some V)
  | [], ES, i, r, he, h => by
    simp only [concE] at he; cases he
    simp only [findA] at h; cases h
    exact ⟨none, by simp [Instr.findAsking], fun _ => rfl, fun _ _ e => by cases e⟩
  | (k', v, b) :: es, ES, i, r, he, h => by
    obtain ⟨x, y, z, hx, hy, hz, rfl⟩ := concE_cons he
    simp only [findA] at h
    split at h
    · rename_i hq
      cases h
      have h1 := eqT_snd (w := w) hT 50 kt k k' K x true hk hx hq Op.maxDepth (by decide)
      exact ⟨some (i, y), by simp [Instr.findAsking, Op.equal, h1], fun e => (by cases e), fun _ _ e => (by cases e; exact ⟨y, rfl, hy⟩)⟩
    · rename_i hq
      have h1 := eqT_snd (w := w) hT 50 kt k k' K x false hk hx hq Op.maxDepth (by decide)
      obtain ⟨R, hR, hn, hs⟩ := findAsking_snd hT hk es z (i + 1) r hz h
      exact ⟨R, by simp [Instr.findAsking, Op.equal, h1, hR], hn, hs⟩
    · cases h
theorem sameNow_snd (kt : Nat) (d : TypeDesc) (hd : P.underlying kt = some d) (K kk : Value) (b : Bool) (hb : Instr.sameNow d K kk = some b) : (Op.equal kt K kk).run P w = .ok b w := by
  unfold Instr.sameNow at hb
  split at hb
  · split at hb
    · rename_i hkk
      subst hkk
      cases hb
      exact run_equalIn_int w _ kt _ _ _ _ hd
    · cases hb
  · cases hb
    rename_i a c
    have h2 := run_equalIn_string (P := P) w 9999 kt a c hd
    rw [← beq_toListBytes] at h2
    exact h2
  · cases hb
    exact run_equalIn_bool' w _ kt _ _ hd
  · cases hb
/-- A key of numbers or letters alone is found by sight; the answer is the same. -/
theorem findNow_asking (kt : Nat) (d : TypeDesc) (hd : P.underlying kt = some d) (K : Value) : ∀ (ES : List MapEntry) (i : Nat) (r : Option (Nat × Value)), Instr.findNow d K ES i = some r → (Instr.findAsking kt K ES i).run P w = .ok r w
  | [], i, r, h => by simp only [Instr.findNow] at h; cases h; simp [Instr.findAsking]
  | e :: es, i, r, h => by
    simp only [Instr.findNow] at h
    have key := fun b hb => sameNow_snd (w := w) kt d hd K e.key b hb
    split at h
    · rename_i hb
      cases h
      simp [Instr.findAsking, key _ hb]
    · rename_i hb
      have ih := findNow_asking kt d hd K es (i + 1) r h
      simp [Instr.findAsking, key _ hb, ih]
    · cases h
theorem findKey_snd (hT : Tab E P) {kt : Nat} {ti : TyI} (hti : E.ty kt = some ti) {k : AV} {K : Value} (hk : conc ρ k = some K) {es : List (AV × AV × Nat)} {ES : List MapEntry} {r : Option (Nat × AV)} (he : concE ρ es = some ES) (h : findA E kt k es 0 = some r) :
    ∃ R : Option (Nat × Value), (Instr.findKey kt K ES).run P w = .ok R w ∧ (r = none → R = none) ∧ (∀ j v, r = some (j, v) → ∃ V, R = some (j, V) ∧ conc ρ v = some V) := by
  have hty := hT.ty kt ti hti
  obtain ⟨R, hR, hn, hs⟩ := findAsking_snd (w := w) hT hk es ES 0 r he h
  cases hf : Instr.findNow ti.desc K ES 0 with
  | none => exact ⟨R, by simp [Instr.findKey, run_underlying_of hty.under, hf, hR], hn, hs⟩
  | some r' =>
    have := findNow_asking (w := w) kt ti.desc hty.under K ES 0 r' hf
    rw [hR] at this
    cases this
    exact ⟨R, by simp [Instr.findKey, run_underlying_of hty.under, hf], hn, hs⟩
theorem upd_map {h : Hp} (hr : Rel B w0 ρ h w) {i : Nat} {p : Pl} {es es' : List (AV × AV × Nat)} {c c' : Nat} {L' : List MapEntry} {A : Array MapEntry} (hi : h i = some (.map es c)) (hp : ρ i = some p) (hb : w.heap[p.blk]? = some (.map A c)) (hL : concE ρ es' = some L') :
    (setObj p.blk (.map L'.toArray c')).run P w = .ok () { w with heap := w.heap.setIfInBounds p.blk (.map L'.toArray c') } ∧ Rel B w0 ρ (Aex.upd h i (.map es' c')) { w with heap := w.heap.setIfInBounds p.blk (.map L'.toArray c') } := by
  have hlive : liveAt h i := ⟨_, hi, rfl⟩
  have hlt := hr.blk_lt hlive hp
  refine ⟨by simp [setObj, Sem.run, hb], hr.upd hlive hp rfl rfl rfl (by simp) (fun b hne => ?_) ⟨p, L', hp, hL, ?_⟩⟩
  · show (w.heap.setIfInBounds p.blk _)[b]? = _
    rw [Array.getElem?_setIfInBounds_ne (fun e => hne e.symm)]
  · show (w.heap.setIfInBounds p.blk _)[p.blk]? = _
    rw [Array.getElem?_setIfInBounds_self_of_lt hlt]
theorem lookup_snd (hT : Tab E P) {t : Nat} {m k v : AV} {M K : Value} {ok : Bool} (hr : Rel B w0 ρ s.h.get w) (hm : conc ρ m = some M) (hk : conc ρ k = some K) (h : Run (lookupA E t m k ok) s v s') : Does P B w0 ρ s s' w (Instr.lookup t M K ok) v := by
  unfold lookupA at h
  replace h := bnd_some h; obtain ⟨ti, s1, g1, h⟩ := h
  obtain ⟨hti, rfl⟩ := tyOf_some g1
  have hty := hT.ty t ti hti
  split at h
  · rename_i kt el hd
    replace h := bnd_some h; obtain ⟨te, s2, g2, h⟩ := h
    obtain ⟨hte, rfl⟩ := tyOf_some g2
    have htye := hT.ty el te hte
    obtain ⟨z, hz, hzr⟩ := run_zeroValue_of (w := w) htye
    have hz' := conc_ren0 (ρ := ρ) hz
    split at h
    · rename_i hkey
      have hck := fun e => keyT_snd (w := w) hT e 50 kt k K hk hkey 10000 (by omega)
      split at h
      · simp only [conc] at hm; cases hm
        have hfk : (Instr.findKey kt K []).run P w = .ok none w := by
          obtain ⟨tk, htk⟩ : ∃ tk, E.ty kt = some tk := by
            simp only [keyT] at hkey
            split at hkey
            · cases hkey
            · rename_i ti' h'; exact ⟨ti', h'⟩
          simp [Instr.findKey, Instr.findNow, run_underlying_of (hT.ty kt tk htk).under]
        split at h
        · refine ret_does (α := Unit) hr h (V := .tuple #[z, .bool false]) ?_ (by simp [conc, concL, hz'])
          simp [Instr.lookup, run_underlying_of hty.under, hd, hck, hfk, hzr]
        · refine ret_does (α := Unit) hr h (V := z) ?_ hz'
          simp [Instr.lookup, run_underlying_of hty.under, hd, hck, hfk, hzr]
      · rename_i i
        replace h := bnd_some h; obtain ⟨es, s3, g3, h⟩ := h
        obtain ⟨hes, hrd⟩ := getMap_some g3
        obtain ⟨p, L, hp, hL, hb⟩ := hr.objs i _ hes
        simp only [conc, hp] at hm; cases hm
        have hgo := run_getObj_map (P := P) hb
        obtain ⟨tk, htk⟩ : ∃ tk, E.ty kt = some tk := by
          simp only [keyT] at hkey
          split at hkey
          · cases hkey
          · rename_i ti' h'; exact ⟨ti', h'⟩
        split at h
        · rename_i j u hf
          obtain ⟨R, hR, _, hs⟩ := findKey_snd (w := w) hT htk hk hL hf
          obtain ⟨U, rfl, hU⟩ := hs j u rfl
          split at h
          · obtain ⟨rfl, rfl⟩ := ret_some h
            refine Does.reads hr hrd (V := .tuple #[U, .bool true]) ?_ (by simp [conc, concL, hU])
            simp [Instr.lookup, run_underlying_of hty.under, hd, hgo, hck, hR]
          · obtain ⟨rfl, rfl⟩ := ret_some h
            refine Does.reads hr hrd (V := U) ?_ hU
            simp [Instr.lookup, run_underlying_of hty.under, hd, hgo, hck, hR]
        · rename_i hf
          obtain ⟨R, hR, hn, _⟩ := findKey_snd (w := w) hT htk hk hL hf
          obtain rfl := hn rfl
          split at h
          · obtain ⟨rfl, rfl⟩ := ret_some h
            refine Does.reads hr hrd (V := .tuple #[z, .bool false]) ?_ (by simp [conc, concL, hz'])
            simp [Instr.lookup, run_underlying_of hty.under, hd, hgo, hck, hR, hzr]
          · obtain ⟨rfl, rfl⟩ := ret_some h
            refine Does.reads hr hrd (V := z) ?_ hz'
            simp [Instr.lookup, run_underlying_of hty.under, hd, hgo, hck, hR, hzr]
        · exact (fail_some h).elim
      · exact (fail_some h).elim
    · exact (fail_some h).elim
  · exact (fail_some h).elim
theorem clear_snd (hT : Tab E P) {t : Nat} {ty : TypeId} {x v : AV} {X : Value} (hr : Rel B w0 ρ s.h.get w) (hx : conc ρ x = some X) (h : Run (clearA E t x) s v s') : Does P B w0 ρ s s' w (Builtin.clear_ #[t] ty #[X]) v := by
  unfold clearA at h
  replace h := bnd_some h; obtain ⟨ti, s1, g1, h⟩ := h
  obtain ⟨hti, rfl⟩ := tyOf_some g1
  have hty := hT.ty t ti hti
  split at h
  · rename_i a b hd
    simp only [conc] at hx; cases hx
    refine ret_does (α := Unit) hr h (V := .tuple #[]) ?_ (by simp [undefA, conc, concL])
    simp [Builtin.clear_, run_underlying_of hty.under, hd]
  · rename_i a b i hd
    replace h := bnd_some h; obtain ⟨es, s3, g3, h⟩ := h
    obtain ⟨hes, hrd⟩ := getMap_some g3
    obtain ⟨p, L, hp, hL, hb⟩ := hr.objs i _ hes
    simp only [conc, hp] at hx; cases hx
    have hgo := run_getObj_map (P := P) hb
    replace h := bnd_some h; obtain ⟨u, s4, g4, h⟩ := h
    obtain ⟨_, hs4, hn4⟩ := setO_some g4
    obtain ⟨rfl, rfl⟩ := ret_some h
    obtain ⟨hset, hrel⟩ := upd_map (P := P) (es' := []) (c' := es.2) (L' := []) hr hes hp hb (by simp [concE])
    refine ⟨ρ, .tuple #[], _, ?_, Ext.refl _ _ _, by rw [hs4, hrd.1, get_set_upd]; exact hrel, by simp [undefA, conc, concL]⟩
    simp [Builtin.clear_, run_underlying_of hty.under, hd, hgo, hset]
  · rename_i el hd
    simp only [conc] at hx; cases hx
    refine ret_does (α := Unit) hr h (V := .tuple #[]) ?_ (by simp [undefA, conc, concL])
    simp [Builtin.clear_, run_underlying_of hty.under, hd]
  · rename_i el i o0 o1 k hd
    obtain ⟨p, hp, rfl⟩ := eslice_conc hx
    refine ret_does (α := Unit) hr h (V := .tuple #[]) ?_ (by simp [undefA, conc, concL])
    simp [Builtin.clear_, run_underlying_of hty.under, hd]
  · rename_i el i o n cap hd
    obtain ⟨p, hp, hX⟩ := slice_conc hx; subst hX
    split at h
    · refine ret_does (α := Unit) hr h (V := .tuple #[]) ?_ (by simp [undefA, conc, concL])
      simp [Builtin.clear_, run_underlying_of hty.under, hd]
    · rename_i n
      replace h := bnd_some h; obtain ⟨te, s2, g2, h⟩ := h
      obtain ⟨hte, rfl⟩ := tyOf_some g2
      have htye := hT.ty el te hte
      obtain ⟨z, hz, hzr⟩ := run_zeroValue_of (w := w) htye
      have hzc := conc_zero_cells (ρ := ρ) htye hz
      have hzs : z.cells.size = te.size := by rw [← htye.zsz, ← concL_length hzc]; simp
      split at h
      · rename_i hpos
        have hpos := blt_true hpos
        replace h := bnd_some h; obtain ⟨u, s3, g3, h⟩ := h
        obtain ⟨e, cs, cs', hi, hov, hone, hh, hnx⟩ := storeCellsA_some g3
        obtain ⟨rfl, rfl⟩ := ret_some h
        have hrep := repeatA_conc (ρ := ρ) hzc (by rw [htye.zsz]; exact hpos) (n + 1)
        obtain ⟨w', hrun, hrel⟩ := storeCells_snd (P := P) hr hi hp hov hone hrep
        refine ⟨ρ, .tuple #[], w', ?_, Ext.refl _ _ _, by rw [hh, get_set_upd]; exact hrel, by simp [undefA, conc, concL]⟩
        rw [htye.zsz, ← hzs] at hrun
        have hl : ((Array.range ((n + 1) * z.cells.size)).map fun i => z.cells[i % z.cells.size]!).toList = (List.range ((n + 1) * z.cells.size)).map fun i => z.cells[i % z.cells.size]! := by simp
        rw [hl] at hrun
        simp [Builtin.clear_, run_underlying_of hty.under, hd, hzr, Builtin.zeroCells, hrun]
      · exact (fail_some h).elim
  · exact (fail_some h).elim
theorem copy_snd (hT : Tab E P) {t t2 : Nat} {ty : TypeId} {x y v : AV} {X Y : Value} (hr : Rel B w0 ρ s.h.get w) (hx : conc ρ x = some X) (hy : conc ρ y = some Y) (h : Run (copyA E t x y) s v s') : Does P B w0 ρ s s' w (Builtin.copy_ #[t, t2] ty #[X, Y]) v := by
  unfold copyA at h
  replace h := bnd_some h; obtain ⟨ti, s1, g1, h⟩ := h
  obtain ⟨hti, rfl⟩ := tyOf_some g1
  have hty := hT.ty t ti hti
  split at h
  · rename_i el hd
    replace h := bnd_some h; obtain ⟨te, s2, g2, h⟩ := h
    obtain ⟨hte, rfl⟩ := tyOf_some g2
    have htye := hT.ty el te hte
    have hsz : (sizeOf el).run P w = .ok te.size w := run_sizeA hT (by simp [sizeA, hte]) w
    split at h
    · rename_i d n hld hln
      have hlr := run_lenOf (P := P) hy hln w
      replace h := bnd_some h; obtain ⟨cs, s3, g3, h⟩ := h
      obtain ⟨hrd, L, hL, hfc, _, _⟩ := first_snd (P := P) hr hy hln (Nat.min_le_left n d) g3
      split at h
      · rename_i i o len cap
        simp only [lenA] at hld; cases hld
        obtain ⟨p, hp, hX⟩ := slice_conc hx; subst hX
        replace h := bnd_some h; obtain ⟨u, s4, g4, h⟩ := h
        obtain ⟨e, cs0, cs', hi, hov, hone, hh, hnx⟩ := storeCellsA_some g4
        rw [strictN_eq] at h
        obtain ⟨rfl, rfl⟩ := ret_some h
        rw [hrd.1] at hi
        obtain ⟨w', hrun, hrel⟩ := storeCells_snd (P := P) hr hi hp hov hone hL
        refine ⟨ρ, (.int .i64 ((Nat.min n d : Nat) : Int)), w', ?_, Ext.refl _ _ _, by rw [hh, get_set_upd, hrd.1]; exact hrel, by simp [conc]⟩
        simp [Builtin.copy_, run_underlying_of hty.under, hd, hlr, hsz, hfc, hrun, goInt]
      · simp only [lenA] at hld; cases hld
        simp only [conc] at hx; cases hx
        obtain ⟨rfl, rfl⟩ := ret_some h
        refine ⟨ρ, .int .i64 0, w, ?_, Ext.refl _ _ _, by rw [hrd.1]; exact hr, by simp [conc]⟩
        have hm : Nat.min n 0 = 0 := Nat.min_zero n
        have hm2 : min n 0 = 0 := Nat.min_zero n
        simp only [hm, hm2] at hfc
        simp [Builtin.copy_, run_underlying_of hty.under, hd, hlr, hsz, hfc, goInt]
      · rename_i i o0 o1 k
        simp only [lenA] at hld; cases hld
        obtain ⟨p, hp, rfl⟩ := eslice_conc hx
        obtain ⟨rfl, rfl⟩ := ret_some h
        refine ⟨ρ, .int .i64 0, w, ?_, Ext.refl _ _ _, by rw [hrd.1]; exact hr, by simp [conc]⟩
        have hm : Nat.min n 0 = 0 := Nat.min_zero n
        have hm2 : min n 0 = 0 := Nat.min_zero n
        simp only [hm, hm2] at hfc g3
        have hL0 : L = [] := by
          obtain ⟨_, L', hL', _, a, b⟩ := first_snd (P := P) hr hy hln (Nat.zero_le n) g3
          rw [hL] at hL'; cases hL'
          apply List.length_eq_zero_iff.1
          cases y <;> first | (exact b _ rfl) | (have := a (fun _ e => by cases e); simpa using this)
        subst hL0
        simp [Builtin.copy_, run_underlying_of hty.under, hd, hlr, hsz, hfc, goInt, storeCells]
      · exact (fail_some h).elim
    · exact (fail_some h).elim
  · exact (fail_some h).elim
theorem same1_eq {a b : AV} (h : same1 a b = true) : a = b := by
  unfold same1 at h
  split at h
  · rfl
  · rfl
  · split at h
    · rename_i hk
      obtain rfl := beqK_eq hk
      rw [beqI_eq, beq_iff_eq] at h
      rw [h]
    · cases h
  · rw [beqB_eq, beq_iff_eq] at h
    rw [h]
  · cases h
theorem sameL_eq : ∀ {a b : List AV}, sameL a b = true → a = b ∧ ∀ x ∈ a, same1 x x = true
  | [], [], _ => ⟨rfl, fun x h => by cases h⟩
  | [], _ :: _, h => by simp [sameL] at h
  | _ :: _, [], h => by simp [sameL] at h
  | a :: x, b :: y, h => by
    simp only [sameL] at h
    split at h
    · rename_i h1
      obtain ⟨h2, h3⟩ := sameL_eq h
      have h4 := same1_eq h1
      subst h4 h2
      refine ⟨rfl, fun u hu => ?_⟩
      rcases List.mem_cons.1 hu with rfl | hu
      · exact h1
      · exact h3 u hu
    · cases h
theorem sameBits1 {a : AV} {A : Value} (ha : conc ρ a = some A) (h : same1 a a = true) (n : Nat) : Instr.sameBits n A A = true := by
  cases a <;> first
    | (simp [same1] at h; done)
    | (rename_i b; obtain rfl := bool_conc ha; cases n <;> simp [Instr.sameBits])
    | (rename_i k b; obtain rfl := int_conc ha; cases n <;> simp [Instr.sameBits])
    | (rename_i l; obtain rfl := str_conc ha; cases n <;> (simp only [Instr.sameBits]; rw [beq_toListBytes]; simp))
theorem sameA_snd {a b : AV} {A : Value} (ha : conc ρ a = some A) (h : sameA a b = true) : a = b ∧ Instr.sameBits 10000 A A = true := by
  unfold sameA at h
  split at h
  · rename_i x y
    obtain ⟨rfl, h2⟩ := sameL_eq h
    obtain ⟨L, hL, rfl⟩ := agg_conc ha
    refine ⟨rfl, ?_⟩
    simp only [Instr.sameBits, BEq.rfl, Bool.true_and]
    rw [List.all_eq_true]
    rintro ⟨u, v⟩ huv
    have huv' : (u, v) ∈ L.zip L := by simpa using huv
    have huv2 : u = v ∧ u ∈ L := by
      clear h h2 ha hL huv
      induction L with
      | nil => cases huv'
      | cons c L ih =>
        simp only [List.zip_cons_cons, List.mem_cons, Prod.mk.injEq] at huv'
        rcases huv' with ⟨rfl, rfl⟩ | hh
        · exact ⟨rfl, List.mem_cons_self ..⟩
        · obtain ⟨e1, e2⟩ := ih hh; exact ⟨e1, List.mem_cons_of_mem _ e2⟩
    obtain ⟨rfl, hu⟩ := huv2
    obtain ⟨k, hk⟩ := List.getElem?_of_mem hu
    have hlt : k < x.length := by rw [← concL_length hL]; exact (List.getElem?_eq_some_iff.1 hk).1
    obtain ⟨V, hV, hg⟩ := concL_get hL k x[k] (List.getElem?_eq_getElem hlt)
    rw [hk] at hg; cases hg
    exact sameBits1 hV (h2 _ (List.getElem_mem hlt)) 9999
  · have := same1_eq h
    subst this
    exact ⟨rfl, sameBits1 ha h 10000⟩
theorem putAt_conc {k v : AV} {K V : Value} (hk : conc ρ k = some K) (hv : conc ρ v = some V) : ∀ {es : List (AV × AV × Nat)} {ES : List MapEntry} (j : Nat), concE ρ es = some ES → keyAt es j = some k →
    concE ρ (putAt v es j) = some (ES.modify j fun e => { e with key := K, val := V }) ∧ ((ES[j]?).map (·.key)) = some K
  | [], ES, j, he, hj => by simp [keyAt] at hj
  | (k', v', b) :: es, ES, 0, he, hj => by
    obtain ⟨x, y, z, hx, hy, hz, rfl⟩ := concE_cons he
    simp only [keyAt] at hj; cases hj
    rw [hk] at hx; cases hx
    exact ⟨by simp [putAt, concE, hk, hv, hz], by simp⟩
  | (k', v', b) :: es, ES, j + 1, he, hj => by
    obtain ⟨x, y, z, hx, hy, hz, rfl⟩ := concE_cons he
    simp only [keyAt] at hj
    obtain ⟨h1, h2⟩ := putAt_conc hk hv j hz hj
    exact ⟨by simp [putAt, concE, hx, hy, h1], by simpa using h2⟩
theorem concE_append {es : List (AV × AV × Nat)} {ES : List MapEntry} {k v : AV} {K V : Value} {b : Nat} (he : concE ρ es = some ES) (hk : conc ρ k = some K) (hv : conc ρ v = some V) : concE ρ (es ++ [(k, v, b)]) = some (ES ++ [⟨K, V, b⟩]) := by
  induction es generalizing ES with
  | nil => simp only [concE] at he; cases he; simp [concE, hk, hv]
  | cons e es ih =>
    obtain ⟨k', v', b'⟩ := e
    obtain ⟨x, y, z, hx, hy, hz, rfl⟩ := concE_cons he
    simp [concE, hx, hy, ih hz]
theorem mapUpdate_snd (hT : Tab E P) {t : Nat} {m k v : AV} {M K V : Value} {u : Unit} (hr : Rel B w0 ρ s.h.get w) (hm : conc ρ m = some M) (hk : conc ρ k = some K) (hv : conc ρ v = some V) (h : Run (mapUpdateA E t m k v) s u s') :
    ∃ w', (Instr.mapUpdate t M K V).run P w = .ok () w' ∧ s'.nx = s.nx ∧ Rel B w0 ρ s'.h.get w' := by
  unfold mapUpdateA at h
  replace h := bnd_some h; obtain ⟨ti, s1, g1, h⟩ := h
  obtain ⟨hti, rfl⟩ := tyOf_some g1
  have hty := hT.ty t ti hti
  split at h
  · rename_i kt el hd
    split at h
    · rename_i hkey
      have hck := fun e => keyT_snd (w := w) hT e 50 kt k K hk hkey 10000 (by omega)
      obtain ⟨tk, htk⟩ : ∃ tk, E.ty kt = some tk := by
        simp only [keyT] at hkey
        split at hkey
        · cases hkey
        · rename_i ti' h'; exact ⟨ti', h'⟩
      split at h
      · rename_i i
        replace h := bnd_some h; obtain ⟨es, s3, g3, h⟩ := h
        obtain ⟨hes, hrd⟩ := getMap_some g3
        obtain ⟨p, L, hp, hL, hb⟩ := hr.objs i _ hes
        simp only [conc, hp] at hm; cases hm
        have hgo := run_getObj_map (P := P) hb
        split at h
        · rename_i j u' hf
          obtain ⟨R, hR, _, hs⟩ := findKey_snd (w := w) hT htk hk hL hf
          obtain ⟨U, rfl, hU⟩ := hs j u' rfl
          split at h
          · rename_i k' hk'
            split at h
            · rename_i hsame
              obtain ⟨_, hs4, hn4⟩ := setO_some h
              have hk2 : k' = k := by
                unfold sameA at hsame
                split at hsame
                · obtain ⟨e, _⟩ := sameL_eq hsame; rw [e]
                · exact same1_eq hsame
              subst hk2
              obtain ⟨_, hbits⟩ := sameA_snd hk hsame
              obtain ⟨hput, hkj⟩ := putAt_conc hk hv j hL hk'
              obtain ⟨hset, hrel⟩ := upd_map (P := P) (es' := putAt v es.1 j) (c' := es.2) hr hes hp hb hput
              refine ⟨_, ?_, by rw [hn4, hrd.2], by rw [hs4, hrd.1, get_set_upd]; exact hrel⟩
              have hkst : (Instr.keyThatStays K K).run P w = .ok K w := by simp [Instr.keyThatStays, hbits]
              have hgd : ((L.toArray[j]?).map (·.key)).getD K = K := by
                have : L.toArray[j]? = L[j]? := by simp
                rw [this, hkj]; rfl
              have hmod : (L.toArray.modify j fun e => { e with key := K, val := V }) = (L.modify j fun e => { e with key := K, val := V }).toArray := by simp
              simp only [Instr.mapUpdate, Sem.run_bind, run_underlying_of hty.under, hd, Result.andThen_ok, hgo, hck, hR, hgd, hkst, hmod, hset]
            · exact (fail_some h).elim
          · exact (fail_some h).elim
        · rename_i hf
          obtain ⟨R, hR, hn, _⟩ := findKey_snd (w := w) hT htk hk hL hf
          obtain rfl := hn rfl
          rw [strictN_eq] at h
          obtain ⟨_, hs4, hn4⟩ := setO_some h
          obtain ⟨hset, hrel⟩ := upd_map (P := P) (es' := es.1 ++ [(k, v, es.2)]) (c' := es.2 + 1) hr hes hp hb (concE_append hL hk hv)
          refine ⟨_, ?_, by rw [hn4, hrd.2], by rw [hs4, hrd.1, get_set_upd]; exact hrel⟩
          have hpush : L.toArray.push (⟨K, V, es.2⟩ : MapEntry) = (L ++ [(⟨K, V, es.2⟩ : MapEntry)]).toArray := by simp
          simp only [Instr.mapUpdate, Sem.run_bind, run_underlying_of hty.under, hd, Result.andThen_ok, hgo, hck, hR, hpush, hset]
        · exact (fail_some h).elim
      · exact (fail_some h).elim
    · exact (fail_some h).elim
  · exact (fail_some h).elim
theorem dropAt_conc : ∀ {es : List (AV × AV × Nat)} {ES : List MapEntry} (j : Nat), concE ρ es = some ES → concE ρ (dropAt es j) = some (ES.eraseIdx j)
  | [], ES, j, he => by simp only [concE] at he; cases he; simp [dropAt, concE]
  | (k', v', b) :: es, ES, 0, he => by
    obtain ⟨x, y, z, hx, hy, hz, rfl⟩ := concE_cons he
    simpa [dropAt] using hz
  | (k', v', b) :: es, ES, j + 1, he => by
    obtain ⟨x, y, z, hx, hy, hz, rfl⟩ := concE_cons he
    have := dropAt_conc j hz
    simp [dropAt, concE, hx, hy, this]
theorem delete_snd (hT : Tab E P) {t t2 : Nat} {ty : TypeId} {m k v : AV} {M K : Value} (hr : Rel B w0 ρ s.h.get w) (hm : conc ρ m = some M) (hk : conc ρ k = some K) (h : Run (deleteA E t m k) s v s') :
    Does P B w0 ρ s s' w (Builtin.delete_ #[t, t2] ty #[M, K]) v := by
  unfold deleteA at h
  replace h := bnd_some h; obtain ⟨ti, s1, g1, h⟩ := h
  obtain ⟨hti, rfl⟩ := tyOf_some g1
  have hty := hT.ty t ti hti
  split at h
  · rename_i kt el hd
    split at h
    · rename_i hkey
      have hck := fun e => keyT_snd (w := w) hT e 50 kt k K hk hkey 10000 (by omega)
      obtain ⟨tk, htk⟩ : ∃ tk, E.ty kt = some tk := by
        simp only [keyT] at hkey
        split at hkey
        · cases hkey
        · rename_i ti' h'; exact ⟨ti', h'⟩
      split at h
      · rename_i i
        replace h := bnd_some h; obtain ⟨es, s3, g3, h⟩ := h
        obtain ⟨hes, hrd⟩ := getMap_some g3
        obtain ⟨p, L, hp, hL, hb⟩ := hr.objs i _ hes
        simp only [conc, hp] at hm; cases hm
        have hgo := run_getObj_map (P := P) hb
        split at h
        · rename_i j u' hf
          obtain ⟨R, hR, _, hs⟩ := findKey_snd (w := w) hT htk hk hL hf
          obtain ⟨U, rfl, hU⟩ := hs j u' rfl
          replace h := bnd_some h; obtain ⟨u, s4, g4, h⟩ := h
          obtain ⟨_, hs4, hn4⟩ := setO_some g4
          obtain ⟨rfl, rfl⟩ := ret_some h
          have hdrop := dropAt_conc j hL
          obtain ⟨hset, hrel⟩ := upd_map (P := P) (es' := dropAt es.1 j) (c' := es.2) hr hes hp hb hdrop
          refine ⟨ρ, .tuple #[], _, ?_, Ext.refl _ _ _, by rw [hs4, hrd.1, get_set_upd]; exact hrel, by simp [undefA, conc, concL]⟩
          have her : L.toArray.eraseIdxIfInBounds j = (L.eraseIdx j).toArray := by
            simp
          simp [Builtin.delete_, run_underlying_of hty.under, hd, hgo, hck, hR, hset]
        · rename_i hf
          obtain ⟨R, hR, hn, _⟩ := findKey_snd (w := w) hT htk hk hL hf
          obtain rfl := hn rfl
          replace h := bnd_some h; obtain ⟨u, s4, g4, h⟩ := h
          obtain ⟨_, hs4, hn4⟩ := setO_some g4
          obtain ⟨rfl, rfl⟩ := ret_some h
          obtain ⟨hset, hrel⟩ := upd_map (P := P) (es' := es.1) (c' := es.2) hr hes hp hb hL
          refine ⟨ρ, .tuple #[], _, ?_, Ext.refl _ _ _, by rw [hs4, hrd.1, get_set_upd]; exact hrel, by simp [undefA, conc, concL]⟩
          simp [Builtin.delete_, run_underlying_of hty.under, hd, hgo, hck, hR, hset]
        · exact (fail_some h).elim
      · exact (fail_some h).elim
    · exact (fail_some h).elim
  · exact (fail_some h).elim
end
end Go.Aex
