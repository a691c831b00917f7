/- The executor's operations hold of the program's machine: conversions, maps, channels, len. -/
import Derived.Laws.BytesString
import Derived.Test.YtefleapekgbpcaaGreatDoorAexM
set_option linter.unusedVariables false
set_option linter.unusedSimpArgs false
namespace Go.Aex
open Go.RowKit
section
variable {E : Env} {P : Program} {B : Nat} {w0 w : World} {ρ : Ren} {s s' : St}
theorem concE_length : ∀ {l : List (AV × AV × Nat)} {L : List MapEntry}, concE ρ l = some L → L.length = l.length
  | [], L, e => by simp only [concE] at e; cases e; rfl
  | (k, v, b) :: l, L, e => by
    obtain ⟨x, y, z, hx, hy, hz, rfl⟩ := concE_cons e
    simp [concE_length hz]
theorem run_getObj_map {b : Nat} {es : Array MapEntry} {c : Nat} (h : w.heap[b]? = some (.map es c)) : (getObj b).run P w = .ok (.map es c) w := by simp [getObj, Sem.run, h]
theorem run_getObj_chan {b : Nat} {cap : Nat} {buf : Array Value} {cl : Bool} {s r : Nat} {tm : Bool} (h : w.heap[b]? = some (.chan cap buf cl s r tm)) : (getObj b).run P w = .ok (.chan cap buf cl s r tm) w := by simp [getObj, Sem.run, h]
theorem un_snd {op : UnOp} {x v : AV} {X : Value} (hr : Rel B w0 ρ s.h.get w) (hx : conc ρ x = some X) (h : Run (unA op x) s v s') : Does P B w0 ρ s s' w (Op.unary op X) v := by
  unfold unA at h
  split at h
  · obtain rfl := int_conc hx
    rw [int_eq] at h
    refine ret_does (α := Unit) hr h ?_ rfl
    simp [Op.unary, Op.intArith, wrapI_eq]
  · obtain rfl := bool_conc hx
    rw [bool_eq] at h
    refine ret_does (α := Unit) hr h ?_ rfl
    simp [Op.unary]
  · rename_i k n
    obtain rfl := int_conc hx
    split at h
    · rename_i hu hf
      split at h
      · rename_i r hb
        rw [int_eq] at h
        refine ret_does (α := Unit) hr h ?_ rfl
        have hm : (if k.signed then -1 else k.max) = (Int.ofNat (maxOf k)) := by cases k <;> first | (cases hu; done) | rfl
        have hfm : fitsN k (Int.ofNat (maxOf k)) = true := by simp [fitsN]
        simp only [Op.unary, hm]
        exact bits_snd hfm hf hb
      · exact (fail_some h).elim
    · exact (fail_some h).elim
  · exact (fail_some h).elim
/-- Marks at the end of a row change nothing that is known. -/
theorem Rel.freeze {h : Hp} (hr : Rel B w0 ρ h w) {i e : Nat} {cs : List (Option AV)} {p : Pl} {c : Array Value} {t : TypeId} {fr : Nat × Nat} (hi : h i = some (.row e cs)) (hp : ρ i = some p) (hb : w.heap[p.blk]? = some (.cells c t fr)) :
    Rel B w0 ρ h (w.freeze ⟨p.blk, c.size, none⟩ 1) := by
  have hw : (w.freeze ⟨p.blk, c.size, none⟩ 1).heap = w.heap.modify p.blk fun
      | .cells c' elem (lo, hi) => .cells c' elem (if lo == hi then (c.size, c.size + 1) else (min lo c.size, max hi (c.size + 1)))
      | o => o := rfl
  have hlive : liveAt h i := ⟨_, hi, rfl⟩
  have hob := hr.objs i _ hi
  have := hr.upd (w' := w.freeze ⟨p.blk, c.size, none⟩ 1) (o := .row e cs) hlive hp rfl rfl rfl (by rw [hw]; simp) (fun b hb => by rw [hw, Array.getElem?_modify, if_neg (fun e => hb e.symm)]) ?_
  · refine this.ext (fun k => ?_)
    unfold Aex.upd
    split
    · rename_i e; rw [e, hi]
    · rfl
  · obtain ⟨q, c', t', fr', h1, h2, h3, h4, h5, h6⟩ := hob
    rw [hp] at h1; cases h1
    rw [hb] at h2; cases h2
    refine ⟨p, c, t, if fr.1 == fr.2 then (c.size, c.size + 1) else (min fr.1 c.size, max fr.2 (c.size + 1)), hp, ?_, h3, h4, ?_, h6⟩
    · rw [hw, Array.getElem?_modify, if_pos rfl, hb]; rfl
    · split
      · right; exact Nat.le_refl _
      · rename_i hne
        have hne : fr.1 ≠ fr.2 := by simpa using hne
        right
        simp only
        omega
theorem run_markStringish {b o : Nat} {c : Array Value} {t : TypeId} {fr : Nat × Nat} (hb : w.heap[b]? = some (.cells c t fr)) : (markStringish ⟨b, o, none⟩).run P w = .ok () (w.freeze ⟨b, c.size, none⟩ 1) := by
  have : w.shape? b = some (t, c.size) := by simp [World.shape?, hb]
  simp [markStringish, this]
theorem u8List_conc : ∀ {l : List AV} {bs : List UInt8} {L : List Value}, u8List l = some bs → concL ρ l = some L → ∃ ns : List Int, L = ns.map (Value.int .u8) ∧ bs = ns.map fun n => UInt8.ofNat n.toNat
  | [], bs, L, h, k => by
    simp only [u8List] at h; cases h
    simp only [concL] at k; cases k
    exact ⟨[], rfl, rfl⟩
  | v :: l, bs, L, h, k => by
    simp only [u8List] at h
    split at h
    · rename_i b
      split at h
      · rename_i r hr
        cases h
        obtain ⟨x, y, hx, hy, rfl⟩ := concL_cons k
        obtain ⟨ns, rfl, rfl⟩ := u8List_conc hr hy
        simp only [conc] at hx; cases hx
        exact ⟨(b : Int) :: ns, rfl, rfl⟩
      · cases h
    · cases h
theorem fold_bytes : ∀ (ns : List Int) (acc : ByteArray), ns.foldl (fun r n => r.push (UInt8.ofNat n.toNat)) acc = ⟨acc.data ++ (ns.map fun n => UInt8.ofNat n.toNat).toArray⟩
  | [], acc => by simp
  | n :: ns, acc => by
    rw [List.foldl_cons, fold_bytes ns]
    simp [ByteArray.push]
theorem conv_snd (hT : Tab E P) {a b : Nat} {x v : AV} {X : Value} (hr : Rel B w0 ρ s.h.get w) (hfree : ∀ k, s.nx ≤ k → k < s'.nx → ρ k = none) (hx : conc ρ x = some X) (h : Run (convA E a b x) s v s') : Does P B w0 ρ s s' w (convert a b X) v := by
  unfold convA at h
  replace h := bnd_some h; obtain ⟨tsrc, s0, g0, h⟩ := h
  obtain ⟨hts, rfl⟩ := tyOf_some g0
  have htys := hT.ty a tsrc hts
  replace h := bnd_some h; obtain ⟨ti, s1, g1, h⟩ := h
  obtain ⟨hti, rfl⟩ := tyOf_some g1
  have hty := hT.ty b ti hti
  split at h
  · rename_i k k' n hd
    obtain rfl := int_conc hx
    rw [int_eq] at h
    refine ret_does (α := Unit) hr h ?_ rfl
    cases hsd : tsrc.desc <;> simp [convert, run_underlying_of hty.under, run_underlying_of htys.under, hd, hsd, Conv.intToInt, wrapI_eq]
  · rename_i l hd
    obtain rfl := str_conc hx
    refine ret_does (α := Unit) hr h ?_ rfl
    cases hsd : tsrc.desc <;> simp [convert, run_underlying_of hty.under, run_underlying_of htys.under, hd, hsd]
  · rename_i e i o len cap hd
    split at h
    · rename_i he
      obtain rfl := beq_true he
      rw [hts] at hti; cases hti
      replace h := bnd_some h; obtain ⟨te, s2, g2, h⟩ := h
      obtain ⟨hte, rfl⟩ := tyOf_some g2
      have htye := hT.ty e te hte
      split at h
      · rename_i hde
        replace h := bnd_some h; obtain ⟨r, s3, g3, h⟩ := h
        obtain ⟨hrow, hrd⟩ := getRow_some g3
        obtain ⟨rfl, rfl⟩ := ret_some h
        obtain ⟨p, hp, hX⟩ := slice_conc hx
        obtain ⟨p', c, t, fr, h1, h2, _⟩ := hr.objs i _ hrow
        rw [hp] at h1; cases h1
        have hrel := hr.freeze hrow hp h2
        refine ⟨ρ, X, _, ?_, Ext.refl _ _ _, by rw [hrd.1]; exact hrel, hx⟩
        rw [hX]
        simp [convert, run_underlying_of hty.under, hd, run_underlying_of htye.under, hde, run_markStringish h2]
      · exact (fail_some h).elim
    · exact (fail_some h).elim
  · rename_i i o n cap hd
    split at h
    · rename_i e hsd
      replace h := bnd_some h; obtain ⟨te, s2, g2, h⟩ := h
      obtain ⟨hte, rfl⟩ := tyOf_some g2
      have htye := hT.ty e te hte
      split at h
      · rename_i hde
        replace h := bnd_some h; obtain ⟨r, s3, g3, h⟩ := h
        obtain ⟨hrow, hrd⟩ := getRow_some g3
        split at h
        · rename_i l hl
          split at h
          · rename_i bs hbs
            obtain ⟨rfl, rfl⟩ := ret_some h
            obtain ⟨p, hp, hX⟩ := slice_conc hx
            obtain ⟨L, hL, hrun⟩ := load_cells (P := P) (hr.objs i _ hrow) hp hl
            obtain ⟨ns, rfl, rfl⟩ := u8List_conc hbs hL
            refine ⟨ρ, .string ⟨(ns.map fun n => UInt8.ofNat n.toNat).toArray⟩, w, ?_, Ext.refl _ _ _, by rw [hrd.1]; exact hr, by simp [conc]⟩
            rw [hX]
            have hb' := fun cp => run_bytesToString w ⟨p.blk, p.base + o, none⟩ n cp ns hrun
            simp only [fold_bytes] at hb'
            simp [convert, run_underlying_of hty.under, hd, hsd, run_underlying_of htys.under, run_underlying_of htye.under, hde, hb']
          · exact (fail_some h).elim
        · exact (fail_some h).elim
      · exact (fail_some h).elim
    · exact (fail_some h).elim
  · rename_i hd
    split at h
    · rename_i e hsd
      replace h := bnd_some h; obtain ⟨te, s2, g2, h⟩ := h
      obtain ⟨hte, rfl⟩ := tyOf_some g2
      have htye := hT.ty e te hte
      split at h
      · rename_i hde
        simp only [conc] at hx; cases hx
        refine ret_does (α := Unit) hr h (V := .string ⟨#[]⟩) ?_ rfl
        simp [convert, run_underlying_of hty.under, hd, hsd, run_underlying_of htys.under, run_underlying_of htye.under, hde, Conv.bytesToString]
        rfl
      · exact (fail_some h).elim
    · exact (fail_some h).elim
  · rename_i e b hd
    split at h
    · rename_i hsd
      replace h := bnd_some h; obtain ⟨te, s2, g2, h⟩ := h
      obtain ⟨hte, rfl⟩ := tyOf_some g2
      have htye := hT.ty e te hte
      split at h
      · rename_i hde hle
        rw [strictN_eq] at h
        obtain ⟨rfl, hh, hnx⟩ := grown_some h
        simp only [conc] at hx; cases hx
        have hn := hfree s.nx (Nat.le_refl _) (by omega)
        have hbc := bytes_conc (ρ := ρ) b
        have hbl := concL_length hbc
        have hC : b.length ≤ (Question.appendCap b.length 0 e).cut (w.tape w.drawn (.appendCap b.length 0 e)) := by simp only [Question.cut]; omega
        generalize hCe : (Question.appendCap b.length 0 e).cut (w.tape w.drawn (.appendCap b.length 0 e)) = C at hC
        have hrel := grow_rel (sz := 1) hr hn (cs := somes (bytesAV b)) (l := b.map fun b => Value.int .u8 b.toNat) (need := b.length) (C := C) (z := Array.replicate (C - b.length) (.int .u8 0)) e (by rw [somes_length, ← hbl]; simp) (by simp) (by simp) hC (fun k v hk => concL_get hbc k v (somes_get _ _ _ hk))
        have hb2 : (w.drew.alloc (.cells ((b.map fun b => Value.int .u8 b.toNat).toArray ++ Array.replicate (C - b.length) (.int .u8 0)) e)).heap[w.heap.size]? = some (.cells ((b.map fun b => Value.int .u8 b.toNat).toArray ++ Array.replicate (C - b.length) (.int .u8 0)) e (0, 0)) := heap_alloc_new w.drew _
        have hfz := hrel.freeze (i := s.nx) (by unfold Aex.upd; rw [if_pos rfl]) (setR_same _ _ _) hb2
        have hms := run_markStringish (P := P) (o := 0) hb2
        refine ⟨setR ρ s.nx ⟨w.heap.size, 0, C⟩, .slice (some ⟨w.heap.size, 0, none⟩) b.length C, _, ?_, ⟨setR_le _ hn, fun k hk => setR_other _ _ (by omega)⟩, by rw [hh, get_set_upd]; exact hfz, by simp [conc, setR_same]⟩
        have hsz : (⟨b.toArray⟩ : ByteArray).size = b.length := by simp [ByteArray.size]
        have hq : (Question.appendCap b.length 0 e).forced = false := rfl
        simp [convert, run_underlying_of hty.under, hd, hsd, run_underlying_of htys.under, run_underlying_of htye.under, hde, Conv.stringToBytes, hsz, hq, hCe, newRow]
        rw [hms]
        simp [Result.andThen]
      · exact (fail_some h).elim
    · exact (fail_some h).elim
  · exact (fail_some h).elim
theorem len_snd (hT : Tab E P) {t : Nat} {ty : TypeId} {x v : AV} {X : Value} {rest : Array Value} (hr : Rel B w0 ρ s.h.get w) (hx : conc ρ x = some X) (h : Run (lenOfA E t x) s v s') (ts : Array TypeId) (xs : Array Value) (hts : ts[0]? = some t) (hxs : xs[0]? = some X) : Does P B w0 ρ s s' w (Builtin.len_ ts ty xs) v := by
  unfold lenOfA at h
  replace h := bnd_some h; obtain ⟨ti, s1, g1, h⟩ := h
  obtain ⟨hti, rfl⟩ := tyOf_some g1
  have hty := hT.ty t ti hti
  simp only [strictN_eq] at h
  split at h
  case h_1 =>
    rename_i l hd
    obtain rfl := str_conc hx
    refine ret_does (α := Unit) hr h (V := .int .i64 (l.length : Int)) ?_ rfl
    have s1 : (⟨l.toArray⟩ : ByteArray).size = l.length := by show l.toArray.size = _; simp
    simp [Builtin.len_, hts, hxs, run_underlying_of hty.under, hd, goInt, s1]
  case h_2 =>
    rename_i n el hd
    refine ret_does (α := Unit) hr h (V := .int .i64 (n : Int)) ?_ rfl
    simp [Builtin.len_, hts, hxs, run_underlying_of hty.under, hd, goInt]
  case h_3 =>
    rename_i el i o n cap hd
    obtain ⟨p, hp, hX⟩ := slice_conc hx; subst hX
    refine ret_does (α := Unit) hr h (V := .int .i64 (n : Int)) ?_ rfl
    simp [Builtin.len_, hts, hxs, run_underlying_of hty.under, hd, goInt]
  case h_4 =>
    rename_i el hd
    simp only [conc] at hx; cases hx
    refine ret_does (α := Unit) hr h (V := .int .i64 0) ?_ rfl
    simp [Builtin.len_, hts, hxs, run_underlying_of hty.under, hd, goInt]
  case h_5 =>
    rename_i el i o0 o1 k hd
    obtain ⟨p, hp, rfl⟩ := eslice_conc hx
    refine ret_does (α := Unit) hr h (V := .int .i64 0) ?_ rfl
    simp [Builtin.len_, hts, hxs, run_underlying_of hty.under, hd, goInt]
  case h_6 =>
    rename_i a b hd
    simp only [conc] at hx; cases hx
    refine ret_does (α := Unit) hr h (V := .int .i64 0) ?_ rfl
    simp [Builtin.len_, hts, hxs, run_underlying_of hty.under, hd, goInt]
  case h_7 =>
    rename_i a b i hd
    replace h := bnd_some h; obtain ⟨m, s2, g2, h⟩ := h
    obtain ⟨hm, hrd⟩ := getMap_some g2
    obtain ⟨p, L, hp, hL, hb⟩ := hr.objs i _ hm
    simp only [conc, hp] at hx; cases hx
    obtain ⟨rfl, rfl⟩ := ret_some h
    have hlen : L.length = m.1.length := concE_length hL
    refine Does.reads hr hrd (V := .int .i64 (m.1.length : Int)) ?_ rfl
    have hgo := run_getObj_map (P := P) hb
    simp [Builtin.len_, hts, hxs, run_underlying_of hty.under, hd, goInt, hgo, hlen]
  case h_8 =>
    rename_i a b hd
    simp only [conc] at hx; cases hx
    refine ret_does (α := Unit) hr h (V := .int .i64 0) ?_ rfl
    simp [Builtin.len_, hts, hxs, run_underlying_of hty.under, hd, goInt]
  case h_9 =>
    rename_i a b i hd
    replace h := bnd_some h; obtain ⟨o, s2, g2, h⟩ := h
    obtain ⟨ho, hrd⟩ := getO_some g2
    split at h
    · rename_i cap buf sent rcvd
      obtain ⟨p, L, hp, hL, hb⟩ := hr.objs i _ ho
      simp only [conc, hp] at hx; cases hx
      obtain ⟨rfl, rfl⟩ := ret_some h
      refine Does.reads hr hrd (V := .int .i64 (buf.length : Int)) ?_ rfl
      have hgo := run_getObj_chan (P := P) hb
      have hlen := concL_length hL
      simp [Builtin.len_, hts, hxs, run_underlying_of hty.under, hd, goInt, hgo, hlen]
    · exact (fail_some h).elim
  case h_10 => exact (fail_some h).elim
theorem max2_snd {mx : Bool} {x y z : AV} {X Y : Value} (hx : conc ρ x = some X) (hy : conc ρ y = some Y) (h : max2A mx x y = some z) :
    ∃ Z, conc ρ z = some Z ∧ (if mx then (Builtin.max2 X Y).run P w = .ok Z w else (Builtin.min2 X Y).run P w = .ok Z w) := by
  unfold max2A at h
  split at h
  · obtain rfl := int_conc hx; obtain rfl := int_conc hy
    rename_i k a k' b
    split at h
    · rename_i hk
      obtain rfl := beqK_eq hk
      rw [ltI_eq] at h
      by_cases hlt : a < b
      · simp only [hlt, decide_true] at h
        cases mx
        · cases h
          refine ⟨.int k a, rfl, ?_⟩
          have : ¬ b < a := by omega
          simp [Builtin.min2, this]
        · cases h
          exact ⟨.int k b, rfl, by simp [Builtin.max2, hlt]⟩
      · simp only [hlt, decide_false] at h
        cases mx
        · cases h
          refine ⟨.int k b, rfl, ?_⟩
          simp [Builtin.min2]
          omega
        · cases h
          exact ⟨.int k a, rfl, by simp [Builtin.max2, hlt]⟩
    · cases h
  · cases h
theorem maxF_snd {mx : Bool} : ∀ (l : List AV) (L : List Value) (x v : AV) (X : Value), conc ρ x = some X → concL ρ l = some L → maxF mx x l = some v →
    ∃ V, conc ρ v = some V ∧ (if mx then (L.foldlM Builtin.max2 X).run P w = .ok V w else (L.foldlM Builtin.min2 X).run P w = .ok V w)
  | [], L, x, v, X, hx, hl, h => by
    simp only [concL] at hl; cases hl
    simp only [maxF] at h; cases h
    refine ⟨X, hx, ?_⟩
    cases mx <;> simp
  | y :: l, L, x, v, X, hx, hl, h => by
    obtain ⟨Y, L', hY, hL', rfl⟩ := concL_cons hl
    simp only [maxF] at h
    split at h
    · rename_i z hz
      obtain ⟨Z, hZ, hr⟩ := max2_snd (P := P) (w := w) hx hY hz
      obtain ⟨V, hV, hr2⟩ := maxF_snd l L' z v Z hZ hL' h
      refine ⟨V, hV, ?_⟩
      cases mx <;> simp_all [List.foldlM_cons]
    · cases h
theorem makeMap_snd {t : TypeId} {v : AV} {i : Nat} (hr : Rel B w0 ρ s.h.get w) (hfree : ∀ k, s.nx ≤ k → k < s'.nx → ρ k = none) (h : Run (newO (.map [] 0)) s i s') : Does P B w0 ρ s s' w (Instr.makeMap t none) (.map i) := by
  obtain ⟨rfl, hh, hnx, _⟩ := newO_some h
  have hn := hfree s.nx (Nat.le_refl _) (by omega)
  refine ⟨setR ρ s.nx ⟨w.heap.size, 0, 0⟩, .map (some w.heap.size), w.alloc (.map #[] 0), ?_, by rw [hnx]; exact ext_new _ hn, ?_, by simp [conc, setR_same]⟩
  · simp [Instr.makeMap]
  · rw [hh, get_set_upd]
    exact hr.alloc hn _ _ _ _ ⟨_, [], setR_same _ _ _, by simp [concE], heap_alloc_new _ _⟩
theorem makeChan_snd (hT : Tab E P) {t : Nat} {n v : AV} {N : Value} (hr : Rel B w0 ρ s.h.get w) (hfree : ∀ k, s.nx ≤ k → k < s'.nx → ρ k = none) (hnv : conc ρ n = some N) (h : Run (makeChanA E t n) s v s') : Does P B w0 ρ s s' w (Instr.makeChan t N) v := by
  unfold makeChanA at h
  replace h := bnd_some h; obtain ⟨ti, s1, g1, h⟩ := h
  obtain ⟨hti, rfl⟩ := tyOf_some g1
  have hty := hT.ty t ti hti
  split at h
  · rename_i d el k c hd
    obtain rfl := int_conc hnv
    replace h := bnd_some h; obtain ⟨te, s2, g2, h⟩ := h
    obtain ⟨hte, rfl⟩ := tyOf_some g2
    have htye := hT.ty el te hte
    obtain ⟨i, z, hi, hsz, hby, hz, hiz⟩ := htye.info
    split at h
    · rename_i e1 e2
      have e1 := ble_true e1; have e2 := ble_true e2
      replace h := bnd_some h; obtain ⟨j, s3, g3, h⟩ := h
      obtain ⟨rfl, hh, hnx, _⟩ := newO_some g3
      obtain ⟨rfl, rfl⟩ := ret_some h
      have hn := hfree s.nx (Nat.le_refl _) (by omega)
      refine ⟨setR ρ s.nx ⟨w.heap.size, 0, 0⟩, .chan (some w.heap.size), w.alloc (.chan c #[] false 0 0 false), ?_, by rw [hnx]; exact ext_new _ hn, ?_, by simp [conc, setR_same]⟩
      · have b1 : ¬ ((c : Int) < 0) := by omega
        have b2 : ¬ (IntKind.i64.max < (c : Int)) := by simp [IntKind.max, IntKind.bits, IntKind.signed]; omega
        have b3 : ¬ (281474976710544 < (te.bytes : Int) * (c : Int)) := by
          have : te.bytes * c ≤ 1000000 * 1000000 := Nat.mul_le_mul e2 e1
          have h2 : ((te.bytes * c : Nat) : Int) ≤ 1000000 * 1000000 := by omega
          rw [Int.natCast_mul] at h2; omega
        have b4 : ¬ (9223372036854775807 < (c : Int)) := by omega
        simp [Instr.makeChan, asInt, asIntOf, run_underlying_of hty.under, hd, run_typeInfo_of hi, hby, b1, b2, b3, b4]
      · rw [hh, get_set_upd]
        exact hr.alloc hn _ _ _ _ ⟨_, [], setR_same _ _ _, by simp [concL], heap_alloc_new _ _⟩
    · exact (fail_some h).elim
  · exact (fail_some h).elim
end
end Go.Aex
