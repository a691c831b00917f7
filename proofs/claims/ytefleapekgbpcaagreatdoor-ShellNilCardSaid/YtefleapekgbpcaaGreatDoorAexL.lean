/- The executor's operations hold of the program's machine: structs and slices built, make, len, clear. -/
import Derived.Test.YtefleapekgbpcaaGreatDoorAexK
import Derived.Great.FillDense
import Derived.IntWalk
set_option linter.unusedVariables false
set_option linter.unusedSimpArgs false
namespace Go.Aex
open Go.RowKit Go.Great
theorem lay_get : ∀ {cs r : List AV} {n : Nat} {vs : List AV}, lay cs n vs = some r → r.length = cs.length ∧ n + vs.length ≤ cs.length ∧ ∀ k, r[k]? = if n ≤ k ∧ k < n + vs.length then vs[k - n]? else cs[k]?
  | [], r, n, vs, h => by
    cases n <;> cases vs <;> simp only [lay] at h <;> cases h
    exact ⟨rfl, by simp, fun k => by simp⟩
  | c :: cs, r, 0, [], h => by simp only [lay] at h; cases h; exact ⟨rfl, by simp, fun k => by simp⟩
  | c :: cs, r, 0, v :: vs, h => by
    simp only [lay] at h
    split at h
    · cases h
    · rename_i r' hr
      cases h
      obtain ⟨h1, h2, h3⟩ := lay_get hr
      refine ⟨by simp [h1], by simp at h2 ⊢; omega, fun k => ?_⟩
      cases k with
      | zero => simp
      | succ k =>
        simp only [List.getElem?_cons_succ]
        rw [h3 k]
        by_cases e : k < vs.length
        · rw [if_pos ⟨Nat.zero_le _, by omega⟩, if_pos ⟨Nat.zero_le _, by simp; omega⟩]; simp
        · rw [if_neg (by omega), if_neg (by simp; omega)]
  | c :: cs, r, n + 1, vs, h => by
    simp only [lay] at h
    split at h
    · cases h
    · rename_i r' hr
      cases h
      obtain ⟨h1, h2, h3⟩ := lay_get hr
      refine ⟨by simp [h1], by simp; omega, fun k => ?_⟩
      cases k with
      | zero => simp
      | succ k =>
        simp only [List.getElem?_cons_succ]
        rw [h3 k]
        by_cases e : n ≤ k ∧ k < n + vs.length
        · rw [if_pos e, if_pos (by omega)]; congr 1; omega
        · rw [if_neg e, if_neg (by omega)]
section
variable {E : Env} {P : Program} {B : Nat} {w0 w : World} {ρ : Ren} {s s' : St}
def PartsC (ρ : Ren) : List (Nat × AV) → List (Nat × Value) → Prop
  | [], [] => True
  | (i, v) :: l, (j, V) :: m => i = j ∧ conc ρ v = some V ∧ PartsC ρ l m
  | _, _ => False
theorem concL_ext {l : List AV} {L : List Value} (hlen : L.length = l.length) (h : ∀ (k : Nat) (v : AV), l[k]? = some v → ∃ V, conc ρ v = some V ∧ L[k]? = some V) : concL ρ l = some L := by
  induction l generalizing L with
  | nil => simp at hlen; subst hlen; simp [concL]
  | cons v l ih =>
    cases L with
    | nil => simp at hlen
    | cons x y =>
      obtain ⟨V, hV, hg⟩ := h 0 v (by simp)
      simp at hg; subst hg
      exact concL_mk hV (ih (by simpa using hlen) (fun k u hk => by simpa using h (k + 1) u (by simpa using hk)))
theorem fill_snd (place : Nat → Option (Nat × Nat)) : ∀ (ps : List (Nat × AV)) (PS : List (Nat × Value)) (cs r : List AV) (C : List Value), PartsC ρ ps PS → fillA place cs ps = some r → concL ρ cs = some C →
    ∃ R : List Value, concL ρ r = some R ∧ Instr.fill place C.toArray PS = some R.toArray ∧ r.length = cs.length
  | [], [], cs, r, C, _, h, hC => by simp only [fillA] at h; cases h; exact ⟨C, hC, rfl, rfl⟩
  | [], _ :: _, _, _, _, hp, _, _ => hp.elim
  | _ :: _, [], _, _, _, hp, _, _ => hp.elim
  | (i, v) :: ps, (j, V) :: PS, cs, r, C, hp, h, hC => by
    obtain ⟨rfl, hV, hp⟩ := hp
    simp only [fillA] at h
    split at h
    · cases h
    · rename_i off size hpl
      split at h
      · cases h
      · cases h
      · rename_i hb hone
        have hb := beq_true hb
        split at h
        · cases h
        · rename_i cs' hl
          obtain ⟨g1, g2, g3⟩ := lay_get hl
          have hcl := cells_conc hV hone
          have hlen := concL_length hcl
          have hclen := concL_length hC
          have hfs := foldl_set off V.cells.toList 0 C.toArray
          obtain ⟨f1, f2⟩ := hfs
          let D := (V.cells.toList.zipIdx 0).foldl (fun cs (x : Value × Nat) => cs.setIfInBounds (off + x.2) x.1) C.toArray
          have hD : concL ρ cs' = some D.toList := by
            refine concL_ext (by simp only [D, Array.length_toList, f1]; simp; omega) (fun k u hk => ?_)
            rw [g3 k] at hk
            have hDk : D.toList[k]? = if off ≤ k ∧ k < off + V.cells.toList.length ∧ k < C.length then V.cells.toList[k - off]? else C[k]? := by
              have := f2 k
              simp only [Nat.add_zero] at this
              simp only [D, Array.getElem?_toList, this]
              simp
            rw [hDk]
            by_cases e : off ≤ k ∧ k < off + (cellsOf v).length
            · rw [if_pos e] at hk
              rw [if_pos (by omega)]
              exact concL_get hcl _ _ hk
            · rw [if_neg e] at hk
              rw [if_neg (by omega)]
              exact concL_get hC _ _ hk
          obtain ⟨R, hR, hfill, hrl⟩ := fill_snd place ps PS cs' r D.toList hp h hD
          refine ⟨R, hR, ?_, by rw [hrl, g1]⟩
          simp only [Instr.fill, hpl]
          have hsz : V.cells.size = size := by rw [← hb, ← hlen]; simp
          rw [if_neg (by simp [hsz, hclen]; omega)]
          rw [← Array.foldl_toList, Array.toList_zipIdx]
          simpa [D] using hfill
theorem fieldsKnown_all {E : Env} : ∀ {l : List Field}, fieldsKnown E l = true → ∀ f ∈ l, ∃ n, sizeA E f.type = some n
  | [], _, f, hf => by cases hf
  | g :: l, h, f, hf => by
    simp only [fieldsKnown] at h
    split at h
    · cases h
    · rename_i n hn
      rcases List.mem_cons.1 hf with rfl | hf
      · exact ⟨n, hn⟩
      · exact fieldsKnown_all h f hf
theorem run_places (hT : Tab E P) : ∀ (l : List Field), (∀ f ∈ l, ∃ n, sizeA E f.type = some n) → ∃ pl : List (Nat × Nat), (l.mapM fun f => do pure (f.offset, ← sizeOf f.type) : Sem (List (Nat × Nat))).run P w = .ok pl w ∧ ∀ i, pl[i]? = fieldsPlace E l i
  | [], _ => ⟨[], by simp, fun i => by simp [fieldsPlace, nth_eq]⟩
  | f :: l, h => by
    obtain ⟨n, hn⟩ := h f (List.mem_cons_self ..)
    obtain ⟨pl, hpl, hg⟩ := run_places hT l (fun g hg => h g (List.mem_cons_of_mem _ hg))
    refine ⟨(f.offset, n) :: pl, ?_, fun i => ?_⟩
    · simp only [List.mapM_cons, Sem.run_bind, run_sizeA hT hn, Result.andThen_ok, Sem.run_pure, hpl]
    · cases i with
      | zero => simp [fieldsPlace, nth, hn]
      | succ i => simpa [fieldsPlace, nth] using hg i
theorem build_snd (hT : Tab E P) {t : Nat} {ps : List (Nat × AV)} {PS : Array (Nat × Value)} {v : AV} (hr : Rel B w0 ρ s.h.get w) (hp : PartsC ρ ps PS.toList) (h : Run (buildA E t ps) s v s') :
    Does P B w0 ρ s s' w (Instr.build t PS) v := by
  unfold buildA at h
  replace h := bnd_some h; obtain ⟨ti, s1, g1, h⟩ := h
  obtain ⟨hti, rfl⟩ := tyOf_some g1
  have hty := hT.ty t ti hti
  obtain ⟨z, hz, hzr⟩ := run_zeroValue_of (w := w) hty
  have hzc := conc_zero_cells (ρ := ρ) hty hz
  split at h
  · rename_i fs hd
    split at h
    · rename_i hk
      split at h
      · rename_i l hl
        obtain ⟨rfl, rfl⟩ := ret_some h
        obtain ⟨R, hR, hfill, _⟩ := fill_snd _ ps PS.toList _ l _ hp hl hzc
        obtain ⟨pl, hpl, hg⟩ := run_places (w := w) hT fs.toList (fieldsKnown_all hk)
        refine Does.reads hr (Reads.refl _) (V := .agg R.toArray) ?_ (by simp [conc, hR])
        have hplace : (fun i => pl[i]?) = fieldsPlace E fs.toList := funext fun i => by simpa using hg i
        have hm : (fs.mapM fun f => do pure (f.offset, ← sizeOf f.type) : Sem (Array (Nat × Nat))).run P w = .ok pl.toArray w := by
          rw [Array.mapM_eq_mapM_toList]
          simp only [Sem.run_map, hpl, Result.andThen_ok]
        have hfill' : Instr.fill (fun i => pl[i]?) z.cells PS.toList = some R.toArray := by rw [hplace]; simpa using hfill
        simp only [Instr.build, Sem.run_bind, hzr, Result.andThen_ok, run_underlying_of hty.under, hd]
        rw [hm]
        simp [hfill']
      · exact (fail_some h).elim
    · exact (fail_some h).elim
  · rename_i n el hd
    split at h
    · rename_i sz hsz
      split at h
      · rename_i l hl
        obtain ⟨rfl, rfl⟩ := ret_some h
        obtain ⟨R, hR, hfill, _⟩ := fill_snd _ ps PS.toList _ l _ hp hl hzc
        refine Does.reads hr (Reads.refl _) (V := .agg R.toArray) ?_ (by simp [conc, hR])
        have hfill' : Instr.fill (fun i => some (i * sz, sz)) z.cells PS.toList = some R.toArray := by simpa using hfill
        simp [Instr.build, hzr, run_underlying_of hty.under, hd, run_sizeA hT hsz, hfill']
      · exact (fail_some h).elim
    · exact (fail_some h).elim
  · exact (fail_some h).elim
theorem repeatA_length (n : Nat) (l : List AV) : (repeatA n l).length = n * l.length := by
  induction n with
  | zero => simp [repeatA]
  | succ n ih => simp [repeatA, ih, Nat.add_mul]; omega
theorem repeatA_conc {l : List AV} {z : Array Value} (hz : concL ρ l = some z.toList) (hpos : 0 < l.length) (n : Nat) : concL ρ (repeatA n l) = some ((Array.range (n * l.length)).map fun i => z[i % z.size]!).toList := by
  have hzl : z.size = l.length := by have := concL_length hz; simpa using this
  refine concL_ext (by simp [repeatA_length]) (fun k v hk => ?_)
  have key : ∀ (n k : Nat) (v : AV), (repeatA n l)[k]? = some v → l[k % l.length]? = some v ∧ k < n * l.length := by
    intro n
    induction n with
    | zero => intro k v h; simp [repeatA] at h
    | succ n ih =>
      intro k v h
      simp only [repeatA] at h
      by_cases hlt : k < l.length
      · rw [List.getElem?_append_left hlt] at h
        rw [Nat.mod_eq_of_lt hlt]
        exact ⟨h, by rw [Nat.add_mul]; omega⟩
      · rw [List.getElem?_append_right (by omega)] at h
        obtain ⟨a, b⟩ := ih _ _ h
        rw [← Nat.mod_eq_sub_mod (by omega)] at a
        exact ⟨a, by rw [Nat.add_mul]; omega⟩
  obtain ⟨h1, h2⟩ := key n k v hk
  obtain ⟨V, hV, hg⟩ := concL_get hz _ _ h1
  refine ⟨V, hV, ?_⟩
  have hlt : k % l.length < z.size := by rw [hzl]; exact Nat.mod_lt _ hpos
  simp only [Array.getElem?_toList, Array.getElem?_map, Array.getElem?_range, h2, if_true, Option.map_some]
  rw [hzl, getElem!_pos z _ (by rw [hzl]; exact Nat.mod_lt _ hpos)]
  rw [Array.getElem?_toList, Array.getElem?_eq_getElem hlt] at hg
  exact hg
theorem buildSlice_snd (hT : Tab E P) {t n : Nat} {ps : List (Nat × AV)} {PS : Array (Nat × Value)} {v : AV} (hr : Rel B w0 ρ s.h.get w) (hfree : ∀ k, s.nx ≤ k → k < s'.nx → ρ k = none) (hp : PartsC ρ ps PS.toList) (h : Run (buildSliceA E t n ps) s v s') :
    Does P B w0 ρ s s' w (Instr.buildSlice t n PS) v := by
  unfold buildSliceA at h
  replace h := bnd_some h; obtain ⟨ti, s1, g1, h⟩ := h
  obtain ⟨hti, rfl⟩ := tyOf_some g1
  have hty := hT.ty t ti hti
  split at h
  · rename_i el hd
    replace h := bnd_some h; obtain ⟨te, s2, g2, h⟩ := h
    obtain ⟨hte, rfl⟩ := tyOf_some g2
    have htye := hT.ty el te hte
    obtain ⟨z, hz, hzr⟩ := run_zeroValue_of (w := w) htye
    have hzc := conc_zero_cells (ρ := ρ) htye hz
    have hzs : z.cells.size = te.size := by rw [← htye.zsz, ← concL_length hzc]; simp
    split at h
    · rename_i hle
      have hle := ble_true hle
      split at h
      · rename_i hpos
        have hpos := blt_true hpos
        split at h
        · rename_i l hl
          replace h := bnd_some h; obtain ⟨i, s3, g3, h⟩ := h
          obtain ⟨rfl, hh, hnx⟩ := newRowA_some g3
          obtain ⟨rfl, rfl⟩ := ret_some h
          have hn := hfree s.nx (Nat.le_refl _) (by omega)
          have hrep := repeatA_conc (ρ := ρ) hzc (by rw [htye.zsz]; exact hpos) n
          obtain ⟨R, hR, hfill, hrl⟩ := fill_snd _ ps PS.toList _ l _ hp hl hrep
          have hll : n * te.size = l.length := by rw [hrl, repeatA_length, htye.zsz]
          refine ⟨setR ρ s.nx ⟨w.heap.size, 0, n⟩, .slice (some ⟨w.heap.size, 0, none⟩) n n, w.alloc (.cells R.toArray el), ?_, by rw [hnx]; exact ext_new _ hn, by rw [hh, get_set_upd]; exact alloc_row hr hn hR hll el, by simp [conc, setR_same]⟩
          have h24 : ¬ 16777216 < n * te.size := by omega
          have hfill' : Instr.fill (fun i => some (i * te.size, te.size)) ((Array.range (n * te.size)).map fun i => z.cells[i % z.cells.size]!) PS.toList = some R.toArray := by
            have := hfill
            rw [htye.zsz, Array.toArray_toList] at this
            exact this
          by_cases h0 : n * te.size = 0
          · have hn0 : n = 0 := by
              rcases Nat.mul_eq_zero.1 h0 with e | e
              · exact e
              · omega
            subst hn0
            have hR0 : R = [] := List.length_eq_zero_iff.1 (by rw [concL_length hR]; omega)
            have e0 : ((Array.range (0 * te.size)).map fun i => z.cells[i % z.cells.size]!) = #[] := Array.eq_empty_of_size_eq_zero (by simp)
            have hps : Instr.fill (fun i => some (i * te.size, te.size)) #[] PS.toList = some R.toArray := by rw [← e0]; exact hfill'
            have e1 : Array.range 0 = #[] := Array.eq_empty_of_size_eq_zero (by simp)
            simp [Instr.buildSlice, run_underlying_of hty.under, hd, run_sizeOf_of htye, e1, hps, newRow]
          · simp [Instr.buildSlice, run_underlying_of hty.under, hd, run_sizeOf_of htye, h24, h0, hzr, hfill', newRow]
        · exact (fail_some h).elim
      · exact (fail_some h).elim
    · exact (fail_some h).elim
  · exact (fail_some h).elim
theorem makeSlice_snd (hT : Tab E P) {t : Nat} {a b v : AV} {A Bv : Value} (hr : Rel B w0 ρ s.h.get w) (hfree : ∀ k, s.nx ≤ k → k < s'.nx → ρ k = none) (ha : conc ρ a = some A) (hb : conc ρ b = some Bv) (h : Run (makeSliceA E t a b) s v s') :
    Does P B w0 ρ s s' w (Instr.makeSlice t A Bv) v := by
  unfold makeSliceA at h
  replace h := bnd_some h; obtain ⟨ti, s1, g1, h⟩ := h
  obtain ⟨hti, rfl⟩ := tyOf_some g1
  have hty := hT.ty t ti hti
  split at h
  · rename_i el k1 l k2 c hd
    simp only [conc] at ha hb; cases ha; cases hb
    replace h := bnd_some h; obtain ⟨te, s2, g2, h⟩ := h
    obtain ⟨hte, rfl⟩ := tyOf_some g2
    have htye := hT.ty el te hte
    obtain ⟨z, hz, hzr⟩ := run_zeroValue_of (w := w) htye
    have hzc := conc_zero_cells (ρ := ρ) htye hz
    have hzs : z.cells.size = te.size := by rw [← htye.zsz, ← concL_length hzc]; simp
    obtain ⟨i, z', hi, hsz, hby, hz', hiz⟩ := htye.info
    split at h
    · rename_i e1 e2 e3 hpos
      have e1 := ble_true e1; have e2 := ble_true e2; have e3 := ble_true e3; have hpos := blt_true hpos
      replace h := bnd_some h; obtain ⟨j, s3, g3, h⟩ := h
      obtain ⟨rfl, hh, hnx⟩ := newRowA_some g3
      simp only [strictN_eq] at h
      obtain ⟨rfl, rfl⟩ := ret_some h
      have hn := hfree s.nx (Nat.le_refl _) (by omega)
      have hrep := repeatA_conc (ρ := ρ) hzc (by rw [htye.zsz]; exact hpos) c
      rw [htye.zsz] at hrep
      refine ⟨setR ρ s.nx ⟨w.heap.size, 0, c⟩, .slice (some ⟨w.heap.size, 0, none⟩) l c, w.alloc (.cells ((Array.range (c * te.size)).map fun i => z.cells[i % z.cells.size]!) el), ?_, by rw [hnx]; exact ext_new _ hn, ?_, by simp [conc, setR_same]⟩
      · have w1 : IntKind.i64.wrap (l : Int) = l := IntWalk.i64_in _ (by omega)
        have w2 : IntKind.i64.wrap (c : Int) = c := IntWalk.i64_in _ (by omega)
        have b1 : ¬ (281474976710656 < (te.bytes : Int) * (c : Int)) := by
          have : ((te.bytes * c : Nat) : Int) ≤ 281474976710656 := by omega
          rw [Int.natCast_mul] at this; omega
        have b2 : ¬ ((c : Int) < (l : Int)) := by omega
        have b3 : ¬ ((c : Int) < 0) := by omega
        have b4 : ¬ ((l : Int) < 0) := by omega
        have w3 : IntKind.i64.wrap 0 = 0 := IntWalk.i64_in _ (by omega)
        have e1 : Array.range 0 = #[] := Array.eq_empty_of_size_eq_zero (by simp)
        by_cases h0 : c * te.size = 0
        · have hn0 : c = 0 := by
            rcases Nat.mul_eq_zero.1 h0 with e | e
            · exact e
            · omega
          subst hn0
          obtain rfl : l = 0 := by omega
          have e2 : ((Array.range (0 * te.size)).map fun i => z.cells[i % z.cells.size]!) = #[] := Array.eq_empty_of_size_eq_zero (by simp)
          rw [e2]
          have e3 : ((Array.range 0).map fun i => (#[] : Array Value)[i % 0]!) = #[] := Array.eq_empty_of_size_eq_zero (by simp)
          have e4 : ((Array.range 0).map fun _ => (default : Value)) = #[] := Array.eq_empty_of_size_eq_zero (by simp)
          simp [Instr.makeSlice, run_underlying_of hty.under, hd, asInt, asIntOf, run_typeInfo_of hi, hby, w1, w2, w3, b1, b2, b3, b4, e4, run_sizeOf_of htye, newRow]
        · simp [Instr.makeSlice, run_underlying_of hty.under, hd, asInt, asIntOf, run_typeInfo_of hi, hby, w1, w2, b1, b2, b3, b4, run_sizeOf_of htye, hzr, h0, newRow]
      · rw [hh, get_set_upd]
        have := alloc_row hr hn hrep (e := te.size) (cap := c) (by rw [repeatA_length, htye.zsz]) el
        rw [Array.toArray_toList] at this
        exact this
    · exact (fail_some h).elim
  · exact (fail_some h).elim
end
end Go.Aex
