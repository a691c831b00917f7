/- The executor's operations hold of the program's machine: stores, appends. -/
import Derived.Test.YtefleapekgbpcaaGreatDoorAexI
import Derived.Deep.AppendSrc
set_option linter.unusedVariables false
set_option linter.unusedSimpArgs false
namespace Go.Aex
open Go.RowKit

theorem over_get : ∀ {cs r : List (Option AV)} {n : Nat} {vs : List AV}, over cs n vs = some r → r.length = cs.length ∧ n + vs.length ≤ cs.length ∧ ∀ k, r[k]? = if n ≤ k ∧ k < n + vs.length then (vs[k - n]?).map some else cs[k]?
  | cs, r, 0, [], h => by
    have : r = cs := by cases cs <;> simp only [over] at h <;> cases h <;> rfl
    subst this
    exact ⟨rfl, by simp, fun k => by simp⟩
  | [], r, 0, v :: vs, h => by simp only [over] at h; cases h
  | [], r, n + 1, vs, h => by simp only [over] at h; cases h
  | c :: cs, r, 0, v :: vs, h => by
    simp only [over] at h
    split at h
    · cases h
    · rename_i r' hr
      cases h
      obtain ⟨h1, h2, h3⟩ := over_get hr
      refine ⟨by simp [h1], by simp at h2 ⊢; omega, fun k => ?_⟩
      cases k with
      | zero => simp
      | succ k =>
        simp only [List.getElem?_cons_succ]
        rw [h3 k]
        by_cases e : k < vs.length
        · rw [if_pos ⟨Nat.zero_le _, by omega⟩, if_pos ⟨Nat.zero_le _, by simp; omega⟩]; simp
        · rw [if_neg (by omega), if_neg (by simp; omega)]
  | c :: cs, r, n + 1, vs, h => by
    simp only [over] at h
    split at h
    · cases h
    · rename_i r' hr
      cases h
      obtain ⟨h1, h2, h3⟩ := over_get hr
      refine ⟨by simp [h1], by simp; omega, fun k => ?_⟩
      cases k with
      | zero => simp
      | succ k =>
        simp only [List.getElem?_cons_succ]
        rw [h3 k]
        by_cases e : n ≤ k ∧ k < n + vs.length
        · rw [if_pos e, if_pos (by omega)]; congr 2; omega
        · rw [if_neg e, if_neg (by omega)]

section
variable {E : Env} {P : Program} {B : Nat} {w0 w : World} {ρ : Ren} {s s' : St}
/-- Cells of a row written over. -/
theorem storeCells_snd {h : Hp} (hr : Rel B w0 ρ h w) {i o e : Nat} {cs cs' : List (Option AV)} {vs : List AV} {L : List Value} {p : Pl} (hi : h i = some (.row e cs)) (hp : ρ i = some p)
    (hov : over cs o vs = some cs') (hone : allOne vs = true) (hL : concL ρ vs = some L) :
    ∃ w', (storeCells ⟨p.blk, p.base + o, none⟩ L).run P w = .ok () w' ∧ Rel B w0 ρ (Aex.upd h i (.row e cs')) w' := by
  have ho := hr.objs i _ hi
  obtain ⟨q, c, t, fr, h1, h2, h3, h4, h5, h6⟩ := ho
  rw [hp] at h1; cases h1
  obtain ⟨g1, g2, g3⟩ := over_get hov
  have hlen := concL_length hL
  obtain ⟨w', c', hrun, hg', hsz, hk, hoth, hhs, ho1, ho2, ho3⟩ := run_storeCells_any P p.blk (p.base + o) t fr L 0 c w h2 (by omega) h5 (concL_one hL hone)
  refine ⟨w', hrun, hr.upd ⟨_, hi, rfl⟩ hp ho1 ho2 ho3 hhs hoth ⟨p, c', t, fr, hp, hg', by omega, by omega, by rw [hsz]; exact h5, fun k v hkv => ?_⟩⟩
  rw [g3 k] at hkv
  rw [hk]
  split at hkv
  · rename_i hin
    cases hv : vs[k - o]? with
    | none => rw [hv] at hkv; cases hkv
    | some u =>
      rw [hv] at hkv; cases hkv
      obtain ⟨V, hV, hg⟩ := concL_get hL _ _ hv
      refine ⟨V, hV, ?_⟩
      rw [if_pos (by omega), ← hg]
      congr 1; omega
  · rename_i hout
    obtain ⟨V, hV, hg⟩ := h6 k v hkv
    refine ⟨V, hV, ?_⟩
    rw [if_neg (by omega), hg]
theorem storeCellsA_some {i o : Nat} {vs : List AV} {u : Unit} (h : Run (storeCellsA i o vs) s u s') : ∃ e cs cs', s.h.get i = some (.row e cs) ∧ over cs o vs = some cs' ∧ allOne vs = true ∧ s'.h = s.h.set i (.row e cs') ∧ s'.nx = s.nx := by
  unfold storeCellsA at h
  split at h
  · rename_i hone
    replace h := bnd_some h; obtain ⟨r, s1, h1, h⟩ := h
    obtain ⟨hrow, hrd⟩ := getRow_some h1
    split at h
    · rename_i cs' hov
      obtain ⟨a, b, c⟩ := setO_some h
      exact ⟨r.1, r.2, cs', hrow, hov, hone, by rw [b, hrd.1], by rw [c, hrd.2]⟩
    · exact (fail_some h).elim
  · exact (fail_some h).elim
theorem store_snd (hT : Tab E P) {t : Nat} {a x : AV} {A X : Value} {u : Unit} (hr : Rel B w0 ρ s.h.get w) (ha : conc ρ a = some A) (hx : conc ρ x = some X) (h : Run (storeA E t a x) s u s') :
    ∃ w', (Instr.storeAt t A X).run P w = .ok () w' ∧ s'.nx = s.nx ∧ Rel B w0 ρ s'.h.get w' := by
  unfold storeA at h
  split at h
  · rename_i i o
    obtain ⟨p, hp, rfl⟩ := ptr_conc ha
    replace h := bnd_some h; obtain ⟨ti, s1, h1, h⟩ := h
    obtain ⟨hti, rfl⟩ := tyOf_some h1
    have hty := hT.ty t ti hti
    split at h
    · rename_i hlen
      have hlen := beq_true hlen
      obtain ⟨e, cs, cs', hi, hov, hone, hh, hnx⟩ := storeCellsA_some h
      have hL := cells_conc hx hone
      obtain ⟨w', hrun, hrel⟩ := storeCells_snd (P := P) hr hi hp hov hone hL
      refine ⟨w', ?_, hnx, by rw [hh, get_set_upd]; exact hrel⟩
      have hz : X.cells.size = ti.size := by rw [← hlen, ← concL_length hL]; simp
      simp [Instr.storeAt, Instr.sureAddr, storeVar, run_sizeOf_of hty, hz, hrun]
    · exact (fail_some h).elim
  · exact (fail_some h).elim
end

/-! ### append -/
section
variable {E : Env} {P : Program} {B : Nat} {w0 w : World} {ρ : Ren} {s s' : St}
theorem eslice_conc {i o0 o1 k : Nat} {X : Value} (h : conc ρ (.eslice i o0 o1 k) = some X) : ∃ p, ρ i = some p ∧ X = .slice (some ⟨p.blk, p.base + (if p.cap - k = 0 then o0 else o1), none⟩) 0 (p.cap - k) := by
  simp only [conc] at h
  cases hp : ρ i with
  | none => rw [hp] at h; cases h
  | some p => rw [hp] at h; cases h; exact ⟨p, rfl, rfl⟩
theorem run_lenOf {x : AV} {X : Value} {n : Nat} (hx : conc ρ x = some X) (h : lenA x = some n) (w' : World) : (Builtin.lenOf X).run P w' = .ok n w' := by
  cases x <;> simp only [lenA] at h <;> first | (cases h; done) | skip
  case str l => cases h; simp only [conc] at hx; cases hx; simp [Builtin.lenOf, ByteArray.size]
  case slice i o len cap => cases h; obtain ⟨p, hp, rfl⟩ := slice_conc hx; rfl
  case nilslice => cases h; simp only [conc] at hx; cases hx; rfl
  case eslice i o0 o1 k => cases h; obtain ⟨p, hp, rfl⟩ := eslice_conc hx; rfl
theorem bytes_conc : ∀ (l : List UInt8), concL ρ (bytesAV l) = some (l.map fun b => Value.int .u8 b.toNat)
  | [] => by simp [bytesAV, concL]
  | b :: l => by
    simp only [bytesAV, strictN_eq, List.map_cons]
    exact concL_mk (by simp [conc]) (bytes_conc l)
theorem first_snd {x : AV} {X : Value} {size n m : Nat} {l : List AV} (hr : Rel B w0 ρ s.h.get w) (hx : conc ρ x = some X) (hm : lenA x = some m) (hn : n ≤ m) (h : Run (firstA size n x) s l s') :
    Reads s s' ∧ ∃ L, concL ρ l = some L ∧ (Builtin.firstCells size n X).run P w = .ok L.toArray w ∧ ((∀ b, x ≠ .str b) → L.length = n * size) ∧ (∀ b, x = .str b → L.length = n) := by
  unfold firstA at h
  split at h
  · split at h
    · obtain ⟨rfl, rfl⟩ := ret_some h
      simp only [conc] at hx; cases hx
      exact ⟨Reads.refl _, [], by simp [concL], by simp [Builtin.firstCells], fun _ => by simp, fun _ e => by cases e⟩
    · exact (fail_some h).elim
  · split at h
    · obtain ⟨rfl, rfl⟩ := ret_some h
      obtain ⟨p, hp, rfl⟩ := eslice_conc hx
      exact ⟨Reads.refl _, [], by simp [concL], by simp [Builtin.firstCells, loadCells, loadCellsFrom], fun _ => by simp, fun _ e => by cases e⟩
    · exact (fail_some h).elim
  · rename_i i o len cap
    replace h := bnd_some h; obtain ⟨r, s1, h1, h⟩ := h
    obtain ⟨hrow, hrd⟩ := getRow_some h1
    obtain ⟨hl, rfl⟩ := ofOpt_some h
    obtain ⟨p, hp, rfl⟩ := slice_conc hx
    obtain ⟨L, hL, hrun⟩ := load_cells (P := P) (hr.objs i _ hrow) hp hl
    exact ⟨hrd, L, hL, by simpa [Builtin.firstCells] using hrun, fun _ => by rw [concL_length hL, (takeAll_get hl).1], fun _ e => by cases e⟩
  · rename_i b
    obtain ⟨rfl, rfl⟩ := ret_some h
    simp only [conc] at hx; cases hx
    simp only [lenA] at hm; cases hm
    refine ⟨Reads.refl _, _, bytes_conc _, ?_, fun hne => absurd rfl (hne b), fun _ _ => by simp; omega⟩
    simp [Builtin.firstCells]
  · exact (fail_some h).elim
theorem grown_some {sz n : Nat} {cs : List (Option AV)} {v : AV} (h : Run (grown sz cs n) s v s') : v = .slice s.nx 0 n (.rest 0) ∧ s'.h = s.h.set s.nx (.row sz cs) ∧ s'.nx = s.nx + 1 := by
  unfold grown at h
  replace h := bnd_some h; obtain ⟨j, s1, h1, h⟩ := h
  obtain ⟨rfl, hh, hnx, _⟩ := newO_some h1
  obtain ⟨rfl, rfl⟩ := ret_some h
  exact ⟨rfl, hh, hnx⟩
theorem grow_rel {h : Hp} (hr : Rel B w0 ρ h w) {n0 : Nat} (hn : ρ n0 = none) {cs : List (Option AV)} {l : List Value} {sz need C : Nat} {z : Array Value} (e : TypeId) (hlen : cs.length = need * sz) (hl : l.length = need * sz) (hz : z.size = (C - need) * sz) (hle : need ≤ C)
    (hcells : ∀ (k : Nat) (v : AV), cs[k]? = some (some v) → ∃ V, conc ρ v = some V ∧ l[k]? = some V) :
    Rel B w0 (setR ρ n0 ⟨w.heap.size, 0, C⟩) (Aex.upd h n0 (.row sz cs)) (w.drew.alloc (.cells (l.toArray ++ z) e)) := by
  have hC : need * sz + (C - need) * sz = C * sz := by rw [← Nat.add_mul]; congr 1; omega
  have hmul : need * sz ≤ C * sz := Nat.mul_le_mul_right _ hle
  have := hr.drew.alloc (n := n0) hn (.cells (l.toArray ++ z) e) 0 C (.row sz cs) ?_
  · exact this
  · refine ⟨_, _, _, _, setR_same _ _ _, heap_alloc_new _ _, ?_, ?_, Or.inl rfl, ?_⟩
    · simp [hl, hz]; omega
    · simp only; omega
    · intro k v hk
      obtain ⟨V, hV, hg⟩ := hcells k v hk
      refine ⟨V, conc_mono (setR_le _ hn) _ _ hV, ?_⟩
      have hlt : k < l.length := (List.getElem?_eq_some_iff.1 hg).1
      simp only [Nat.zero_add]
      rw [Array.getElem?_append_left (by simpa using hlt)]
      simpa using hg
theorem seqOk_kind {d : TypeDesc} {x : AV} {sz : Nat} (h : seqOk d x sz = true) : (∃ e, d = .slice e) ∨ d = .string := by
  cases d <;> first | exact .inr rfl | exact .inl ⟨_, rfl⟩ | (cases x <;> simp [seqOk] at h)
theorem seqOk_str {d : TypeDesc} {b : List UInt8} {sz : Nat} (h : seqOk d (.str b) sz = true) : sz = 1 := by
  cases d <;> simp [seqOk] at h
  exact h
/-- What is appended. -/
structure News (P : Program) (ρ : Ren) (w : World) (sz n xt : Nat) (X : Value) (new : List AV) (L : List Value) : Prop where
  src : Src P sz xt X n L w
  con : concL ρ new = some L
  one : allOne new = true
theorem firstCells_row {i o len e : Nat} {cs : List (Option AV)} {p : Pl} {sz cap : Nat} (hr : ObjRel ρ i (.row e cs) w) (hp : ρ i = some p) (hfit : o + len * sz ≤ cs.length) :
    ∃ olds : List Value, olds.length = len * sz ∧ (∀ (k : Nat) (v : AV), k < len * sz → cs[o + k]? = some (some v) → ∃ V, conc ρ v = some V ∧ olds[k]? = some V) ∧
      ∀ w' : World, w'.heap = w.heap → (Builtin.firstCells sz len (.slice (some ⟨p.blk, p.base + o, none⟩) len cap)).run P w' = .ok olds.toArray w' := by
  obtain ⟨q, c, t, fr, h1, h2, h3, h4, h5, h6⟩ := hr
  rw [hp] at h1; cases h1
  refine ⟨(c.toList.drop (p.base + o)).take (len * sz), ?_, ?_, ?_⟩
  · simp; omega
  · intro k v hk hv
    obtain ⟨V, hV, hg⟩ := h6 _ v hv
    refine ⟨V, hV, ?_⟩
    rw [List.getElem?_take, if_pos hk, List.getElem?_drop, ← hg]
    simp [Nat.add_assoc]
  · intro w' hw'
    have hlen : ((c.toList.drop (p.base + o)).take (len * sz)).length = len * sz := by simp; omega
    have := run_loadCells_list (P := P) (w := w') ⟨p.blk, p.base + o, none⟩ ((c.toList.drop (p.base + o)).take (len * sz)) (fun j v hj => by
      rw [add_off, cell_of (c := c) (t := t) (fr := fr) (by rw [hw']; exact h2)]
      have hlt : j < len * sz := by rw [← hlen]; exact (List.getElem?_eq_some_iff.1 hj).1
      rw [List.getElem?_take, if_pos hlt, List.getElem?_drop] at hj
      simpa using hj)
    rw [hlen] at this
    simpa [Builtin.firstCells] using this
theorem Does.trans_reads {s1 : St} {sem : Sem Value} {v : AV} (h : Reads s s1) (k : Does P B w0 ρ s1 s' w sem v) : Does P B w0 ρ s s' w sem v := by
  obtain ⟨ρ', V, w', h1, h2, h3, h4⟩ := k
  exact ⟨ρ', V, w', h1, by rw [← h.2]; exact h2, h3, h4⟩
theorem getElem?_append_somes {l : List (Option AV)} {new : List AV} {olds L : List Value} {ρ : Ren} (hL : concL ρ new = some L) (hol : olds.length = l.length)
    (ho : ∀ (k : Nat) (v : AV), l[k]? = some (some v) → ∃ V, conc ρ v = some V ∧ olds[k]? = some V) (k : Nat) (v : AV) (h : (l ++ somes new)[k]? = some (some v)) : ∃ V, conc ρ v = some V ∧ (olds ++ L)[k]? = some V := by
  by_cases hk : k < l.length
  · rw [List.getElem?_append_left hk] at h
    obtain ⟨V, hV, hg⟩ := ho k v h
    exact ⟨V, hV, by rw [List.getElem?_append_left (by omega)]; exact hg⟩
  · rw [List.getElem?_append_right (by omega)] at h
    obtain ⟨V, hV, hg⟩ := concL_get hL _ _ (somes_get new _ _ h)
    exact ⟨V, hV, by rw [List.getElem?_append_right (by omega), hol]; exact hg⟩
theorem run_append_room_any {t tx ty e : TypeId} {i : TypeInfo} (ht : P.underlying t = some (.slice e)) (hi : P.info? e = some i) {b off sLen sCap : Nat} {x : Value} {n : Nat} {news : List Value} {w' : World} (hs : Src P i.size tx x n news w)
    (hroom : sLen + n ≤ sCap) (hst : (storeCells ⟨b, off + sLen * i.size, none⟩ news).run P w = .ok () w') :
    (Builtin.append_ #[t, tx] ty #[.slice (some ⟨b, off, none⟩) sLen sCap, x]).run P w = .ok (.slice (some ⟨b, off, none⟩) (sLen + n) sCap) w' := by
  rcases hs.kind with ⟨e', hk⟩ | hk <;> simp [Builtin.append_, run_underlying ht, run_underlying hk, sizeOf, typeInfo, hi, hs.len, hroom, hs.cells, add_off, hst]
/-- An old row given up; what was appended in place is a row of its own now. -/
theorem adopt_rel {h : Hp} (hr : Rel B w0 ρ h w) {i n0 sz o k len n : Nat} {cs : List (Option AV)} {p : Pl} {new : List AV} {L : List Value} (hi : h i = some (.row sz cs)) (hp : ρ i = some p) (hn : ρ n0 = none) (ho : o = k * sz)
    (hroom : len + n ≤ p.cap - k) (hpos : 0 < n) (hL : concL ρ new = some L) (hone : allOne new = true) (hll : L.length = n * sz) (hpre : ((cs.drop o).take (len * sz)).length = len * sz) :
    ∃ w', (storeCells ⟨p.blk, p.base + o + len * sz, none⟩ L).run P w = .ok () w' ∧ Rel B w0 (setR ρ n0 ⟨p.blk, p.base + o, p.cap - k⟩) (Aex.upd (Aex.upd h i .dead) n0 (.row sz ((cs.drop o).take (len * sz) ++ somes new))) w' := by
  have hob := hr.objs i _ hi
  obtain ⟨q, c, t, fr, h1, h2, h3, h4, h5, h6⟩ := hob
  rw [hp] at h1; cases h1
  have hk : k + (len + n) ≤ p.cap := by omega
  have e1 : k * sz + (p.cap - k) * sz = p.cap * sz := by rw [← Nat.add_mul]; congr 1; omega
  have e2 : len * sz + n * sz ≤ (p.cap - k) * sz := by rw [← Nat.add_mul]; exact Nat.mul_le_mul_right _ hroom
  obtain ⟨w', c', hrun, hg', hsz, hkk, hoth, hhs, ho1, ho2, ho3⟩ := run_storeCells_any P p.blk (p.base + o + len * sz) t fr L 0 c w h2 (by omega) h5 (concL_one hL hone)
  have hlive : liveAt h i := ⟨_, hi, rfl⟩
  refine ⟨w', hrun, (hr.kill i).add hn (setR_le _ hn) (setR_same _ _ _) (fun k hk => setR_other _ _ hk) ?_ (hr.low i p hlive hp) ho1 ho2 ho3 (by omega) (fun b hb _ => hoth b hb) ?_⟩
  · intro j q hl hq eb
    obtain ⟨oj, hj, hlj⟩ := hl
    unfold Aex.upd at hj
    split at hj
    · cases hj; cases hlj
    · rename_i hne
      exact hne (hr.inj j i q p ⟨oj, hj, hlj⟩ hlive hq hp eb)
  · refine ⟨_, c', t, fr, setR_same _ _ _, hg', ?_, ?_, ?_, ?_⟩
    · simp only; omega
    · simp only [List.length_append, hpre, somes_length, ← concL_length hL, hll]; exact e2
    · rw [hsz]; exact h5
    · intro j v hj
      by_cases hlt : j < len * sz
      · rw [List.getElem?_append_left (by omega), List.getElem?_take, if_pos hlt, List.getElem?_drop] at hj
        obtain ⟨V, hV, hg⟩ := h6 _ v hj
        refine ⟨V, conc_mono (setR_le _ hn) _ _ hV, ?_⟩
        rw [hkk, if_neg (by simp only; omega), ← hg]
        congr 1; simp only; omega
      · rw [List.getElem?_append_right (by omega), hpre] at hj
        obtain ⟨V, hV, hg⟩ := concL_get hL _ _ (somes_get new _ _ hj)
        have hlt2 : j - len * sz < L.length := (List.getElem?_eq_some_iff.1 hg).1
        refine ⟨V, conc_mono (setR_le _ hn) _ _ hV, ?_⟩
        rw [hkk, if_pos (by simp only; omega), ← hg]
        congr 1; simp only; omega
theorem appendTo_snd {t xt el : Nat} {ti te : TyI} {i : TypeInfo} {z : Value} {a v : AV} {A X : Value} {n len : Nat} {new : List AV} {L : List Value} (ty : TypeId) (hty : TyOk P t ti) (htye : TyOk P el te) (hi : P.info? el = some i) (hsz : i.size = te.size) (hiz : i.zero = some z) (hz : conc ren0 te.zero = some z)
    (hd : ti.desc = .slice el) (hpos : 0 < te.size) (hr : Rel B w0 ρ s.h.get w) (hfree : ∀ k, s.nx ≤ k → k < s'.nx → ρ k = none) (ha : conc ρ a = some A) (hls : lenA a = some len) (hn : News P ρ w te.size n xt X new L) (h63 : len + n ≤ 9223372036854775807)
    (hcut : ∀ c, c < len + n → Builtin.nextslicecap (len + n) c * i.bytes ≤ 281474976710656) (h : Run (appendTo te.size a n len new) s v s') :
    Does P B w0 ρ s s' w (Builtin.append_ #[t, xt] ty #[A, X]) v := by
  have ht : P.underlying t = some (.slice el) := by rw [hty.under, hd]
  have hzs : z.cells.size = te.size := by
    rw [← htye.zsz, ← concL_length (conc_zero_cells (ρ := ρ) htye hz)]; simp
  have hnl : L.length = n * te.size := hn.src.newsLen
  -- a new row
  have grow : ∀ (s1 : St) (base : Option Addr) (cap : Nat) (olds : List Value) (cs : List (Option AV)) (v' : AV), Rel B w0 ρ s1.h.get w → ρ s1.nx = none → A = .slice base len cap → cap < len + n → olds.length = len * te.size → cs.length = (len + n) * te.size →
      (∀ (k : Nat) (v : AV), cs[k]? = some (some v) → ∃ V, conc ρ v = some V ∧ (olds ++ L)[k]? = some V) →
      (Builtin.firstCells te.size len (.slice base len cap)).run P w.drew = .ok olds.toArray w.drew →
      Run (grown te.size cs (len + n)) s1 v' s' → Does P B w0 ρ s1 s' w (Builtin.append_ #[t, xt] ty #[A, X]) v' := by
    intro s1 base cap olds cs v' hr1 hfr hA hlt hol hcl hcells hfc hg
    subst hA
    obtain ⟨rfl, hh, hnx⟩ := grown_some hg
    have hge := grownCap_ge w (len + n) cap el
    refine ⟨setR ρ s1.nx ⟨w.heap.size, 0, grownCap w (len + n) cap el⟩, _, _, run_append_grow_src (P := P) w t xt ty el i z ht hi hiz base len cap olds (by rw [hsz]; exact hfc) X n L (by rw [hsz]; exact hn.src) (by omega) (by omega) (hcut cap hlt), by rw [hnx]; exact ext_new _ hfr, ?_, ?_⟩
    · rw [hh, get_set_upd]
      exact grow_rel hr1 hfr el hcl (by rw [List.length_append, hol, hnl, Nat.add_mul]) (by rw [size_zeroCells, hzs]) hge hcells
    · simp [conc, setR_same]
  have hrd : ∀ {s1 : St}, Reads s s1 → Rel B w0 ρ s1.h.get w := fun h => by rw [h.1]; exact hr
  unfold appendTo at h
  split at h
  · -- nil
    simp only [lenA] at hls; cases hls
    simp only [conc] at ha; cases ha
    split at h
    · obtain ⟨rfl, rfl⟩ := ret_some h
      refine Does.reads hr (Reads.refl _) (V := .slice none 0 0) ?_ (by simp [conc])
      have hl0 : L = [] := List.length_eq_zero_iff.1 (by omega)
      have hfc := hn.src.cells
      rcases hn.src.kind with ⟨e', hk⟩ | hk <;> simp [Builtin.append_, run_underlying ht, run_underlying hk, sizeOf, typeInfo, hi, hsz, hn.src.len, hfc]
    · rename_i m
      obtain ⟨hv, hh, hnx⟩ := grown_some h
      have hfr := hfree s.nx (Nat.le_refl _) (by omega)
      refine grow s none 0 [] (somes new) v hr hfr rfl (by omega) (by simp) (by rw [somes_length, ← concL_length hn.con, hnl]; simp) (fun k v hk => ?_) (by simp [Builtin.firstCells]) (by simpa using h)
      obtain ⟨V, hV, hg⟩ := concL_get hn.con k v (somes_get new k v hk)
      exact ⟨V, hV, by simpa using hg⟩
  · -- an empty one
    rename_i j o0 o1 k
    simp only [lenA] at hls; cases hls
    obtain ⟨p, hp, rfl⟩ := eslice_conc ha
    split at h
    · obtain ⟨rfl, rfl⟩ := ret_some h
      refine Does.reads hr (Reads.refl _) (V := .slice (some ⟨p.blk, p.base + (if p.cap - k = 0 then o0 else o1), none⟩) 0 (p.cap - k)) ?_ (by simp [conc, hp])
      have hl0 : L = [] := List.length_eq_zero_iff.1 (by omega)
      have hst : (storeCells ⟨p.blk, p.base + (if p.cap - k = 0 then o0 else o1) + 0 * i.size, none⟩ L).run P w = .ok () w := by rw [hl0]; rfl
      have := run_append_room_any (P := P) (ty := ty) (sCap := p.cap - k) ht hi (by rw [hsz]; exact hn.src) (Nat.zero_le _) hst
      simpa using this
    · rename_i m
      replace h := bnd_some h; obtain ⟨r, s1, h1, h⟩ := h
      obtain ⟨hrow, hrd1⟩ := getRow_some h1
      split at h
      · rename_i hb1 hb2
        have hb1 := beq_true hb1
        have hb2 := beq_true hb2
        replace h := bnd_some h; obtain ⟨u, s2, h2, h⟩ := h
        obtain ⟨_, hs2, hs2n⟩ := setO_some h2
        have hnx : s'.nx = s2.nx + 1 := (grown_some h).2.2
        have hfr := hfree s2.nx (by rw [hs2n, hrd1.2]; exact Nat.le_refl _) (by omega)
        have hrow' : s.h.get j = some (.row te.size r.2) := by rw [← hb1]; exact hrow
        by_cases hroom : m + 1 ≤ p.cap - k
        · obtain ⟨w', hst, hrel⟩ := adopt_rel (P := P) (len := 0) hr hrow' hp hfr hb2 (by omega) (Nat.succ_pos m) hn.con hn.one hnl (by simp)
          obtain ⟨rfl, hh, hnx'⟩ := grown_some h
          have hcap : ¬ p.cap - k = 0 := by omega
          have hrun := run_append_room_any (P := P) (ty := ty) (off := p.base + o1) (sCap := p.cap - k) (sLen := 0) ht hi (by rw [hsz]; exact hn.src) (by omega) (by rw [hsz]; exact hst)
          refine ⟨setR ρ s2.nx ⟨p.blk, p.base + o1, p.cap - k⟩, .slice (some ⟨p.blk, p.base + o1, none⟩) (m + 1) (p.cap - k), w', ?_, ?_, ?_, ?_⟩
          · rw [if_neg hcap]; simpa using hrun
          · rw [hnx', ← hrd1.2, ← hs2n]; exact ext_new _ hfr
          · rw [hh, get_set_upd, hs2, hrd1.1, get_set_upd]
            simpa using hrel
          · simp [conc, setR_same]
        · refine Does.trans_reads (s1 := { s1 with nx := s1.nx }) hrd1 ?_
          have hr2 : Rel B w0 ρ s2.h.get w := by rw [hs2, hrd1.1, get_set_upd]; exact hr.kill j
          obtain ⟨ρ', V, w', g1, g2, g3, g4⟩ := grow s2 (some ⟨p.blk, p.base + (if p.cap - k = 0 then o0 else o1), none⟩) (p.cap - k) [] (somes new) v hr2 hfr rfl (by omega) (by simp) (by rw [somes_length, ← concL_length hn.con, hnl]; simp) (fun k v hk => by
            obtain ⟨V, hV, hg⟩ := concL_get hn.con k v (somes_get new k v hk)
            exact ⟨V, hV, by simpa using hg⟩) (by simp [Builtin.firstCells, loadCells, loadCellsFrom]) (by simpa using h)
          exact ⟨ρ', V, w', g1, by rw [← hs2n]; exact g2, g3, g4⟩
      · exact (fail_some h).elim
  · -- a slice of known capacity
    rename_i j o len' c
    simp only [lenA] at hls; cases hls
    obtain ⟨p, hp, hA⟩ := slice_conc ha
    simp only [capV] at hA
    replace h := bnd_some h; obtain ⟨r, s1, h1, h⟩ := h
    obtain ⟨hrow, hrd1⟩ := getRow_some h1
    refine Does.trans_reads hrd1 ?_
    have hr1 := hrd hrd1
    split at h
    · exact (fail_some h).elim
    · rename_i hfit
      have hfit := ble_true hfit
      split at h
      · rename_i hroom
        have hroom := ble_true hroom
        split at h
        · rename_i cs hov
          replace h := bnd_some h; obtain ⟨u, s2, h2, h⟩ := h
          obtain ⟨_, hs2, hs2n⟩ := setO_some h2
          rw [strictN_eq] at h
          obtain ⟨rfl, rfl⟩ := ret_some h
          obtain ⟨w', hst, hrel⟩ := storeCells_snd (P := P) hr hrow hp hov hn.one hn.con
          have hrun := run_append_room_any (P := P) (ty := ty) (off := p.base + o) (sCap := c) (sLen := len) ht hi (by rw [hsz]; exact hn.src) hroom (by rw [hsz, Nat.add_assoc]; exact hst)
          exact ⟨ρ, _, w', by rw [hA]; exact hrun, Ext.refl _ _ _, by rw [hs2, hrd1.1, get_set_upd]; exact hrel, by simp [conc, hp]⟩
        · exact (fail_some h).elim
      · rename_i hroom
        have hroom := ble_false hroom
        rw [strictN_eq] at h
        have hfr := hfree s1.nx (by rw [hrd1.2]; exact Nat.le_refl _) (by have := (grown_some h).2.2; omega)
        obtain ⟨olds, hol, hok, hfc⟩ := firstCells_row (P := P) (len := len) (sz := te.size) (cap := c) (hr.objs j _ hrow) hp hfit
        have hpl : ((r.2.drop o).take (len * te.size)).length = len * te.size := by simp; omega
        refine grow s1 _ c olds _ v hr1 hfr hA (by omega) hol (by rw [List.length_append, hpl, somes_length, ← concL_length hn.con, hnl, Nat.add_mul]) (fun k v hk => ?_) (hfc w.drew rfl) h
        refine getElem?_append_somes hn.con (by rw [hol, hpl]) (fun k v hk => ?_) k v hk
        have hlt : k < len * te.size := by rw [← hpl]; exact (List.getElem?_eq_some_iff.1 hk).1
        rw [List.getElem?_take, if_pos hlt, List.getElem?_drop] at hk
        exact hok k v hlt hk
  · -- a slice of all that its row has room for
    rename_i j o len' k
    simp only [lenA] at hls; cases hls
    obtain ⟨p, hp, hA⟩ := slice_conc ha
    simp only [capV] at hA
    replace h := bnd_some h; obtain ⟨r, s1, h1, h⟩ := h
    obtain ⟨hrow, hrd1⟩ := getRow_some h1
    refine Does.trans_reads hrd1 ?_
    have hr1 := hrd hrd1
    split at h
    · rename_i hfit hb1 hb2
      have hfit := ble_true hfit
      have hb1 := beq_true hb1
      have hb2 := beq_true hb2
      have hrow' : s.h.get j = some (.row te.size r.2) := by rw [← hb1]; exact hrow
      split at h
      · rename_i hin
        have hin := ble_true hin
        split at h
        · rename_i cs hov
          replace h := bnd_some h; obtain ⟨u, s2, h2, h⟩ := h
          obtain ⟨_, hs2, hs2n⟩ := setO_some h2
          rw [strictN_eq] at h
          obtain ⟨rfl, rfl⟩ := ret_some h
          have hroom : len + n ≤ p.cap - k := by
            obtain ⟨q, c, t', fr, g1, g2, g3, g4, g5, g6⟩ := hr.objs j _ hrow'
            rw [hp] at g1; cases g1
            have : (k + (len + n)) * te.size ≤ p.cap * te.size := by rw [Nat.add_mul]; omega
            have := Nat.le_of_mul_le_mul_right this hpos
            omega
          obtain ⟨w', hst, hrel⟩ := storeCells_snd (P := P) hr hrow hp hov hn.one hn.con
          have hrun := run_append_room_any (P := P) (ty := ty) (off := p.base + o) (sCap := p.cap - k) (sLen := len) ht hi (by rw [hsz]; exact hn.src) hroom (by rw [hsz, Nat.add_assoc]; exact hst)
          exact ⟨ρ, _, w', by rw [hA]; exact hrun, Ext.refl _ _ _, by rw [hs2, hrd1.1, get_set_upd]; exact hrel, by simp [conc, hp]⟩
        · exact (fail_some h).elim
      · rename_i hin
        have hin := ble_false hin
        replace h := bnd_some h; obtain ⟨u, s2, h2, h⟩ := h
        obtain ⟨_, hs2, hs2n⟩ := setO_some h2
        rw [strictN_eq] at h
        have hnpos : 0 < n := by
          rcases Nat.eq_zero_or_pos n with e | e
          · subst e; exact absurd hfit (by simpa using hin)
          · exact e
        have hfr := hfree s2.nx (by rw [hs2n, hrd1.2]; exact Nat.le_refl _) (by have := (grown_some h).2.2; omega)
        have hpl : ((r.2.drop o).take (len * te.size)).length = len * te.size := by simp; omega
        by_cases hroom : len + n ≤ p.cap - k
        · obtain ⟨w', hst, hrel⟩ := adopt_rel (P := P) hr hrow' hp hfr hb2 hroom hnpos hn.con hn.one hnl hpl
          obtain ⟨rfl, hh, hnx'⟩ := grown_some h
          have hrun := run_append_room_any (P := P) (ty := ty) (off := p.base + o) (sCap := p.cap - k) (sLen := len) ht hi (by rw [hsz]; exact hn.src) hroom (by rw [hsz]; exact hst)
          refine ⟨setR ρ s2.nx ⟨p.blk, p.base + o, p.cap - k⟩, _, w', by rw [hA]; exact hrun, by rw [hnx', ← hs2n]; exact ext_new _ hfr, ?_, by simp [conc, setR_same]⟩
          rw [hh, get_set_upd, hs2, hrd1.1, get_set_upd]
          exact hrel
        · have hr2 : Rel B w0 ρ s2.h.get w := by rw [hs2, hrd1.1, get_set_upd]; exact hr.kill j
          obtain ⟨olds, hol, hok, hfc⟩ := firstCells_row (P := P) (len := len) (sz := te.size) (cap := p.cap - k) (hr.objs j _ hrow) hp hfit
          obtain ⟨ρ', V, w', g1, g2, g3, g4⟩ := grow s2 _ (p.cap - k) olds _ v hr2 hfr hA (by omega) hol (by rw [List.length_append, hpl, somes_length, ← concL_length hn.con, hnl, Nat.add_mul]) (fun k v hk => by
            refine getElem?_append_somes hn.con (by rw [hol, hpl]) (fun k v hk => ?_) k v hk
            have hlt : k < len * te.size := by rw [← hpl]; exact (List.getElem?_eq_some_iff.1 hk).1
            rw [List.getElem?_take, if_pos hlt, List.getElem?_drop] at hk
            exact hok k v hlt hk) (hfc w.drew rfl) h
          exact ⟨ρ', V, w', g1, by rw [← hs2n]; exact g2, g3, g4⟩
    · exact (fail_some h).elim
  · exact (fail_some h).elim
theorem append_snd (hT : Tab E P) {t xt : Nat} {a x v : AV} {A X : Value} (ty : TypeId) (hr : Rel B w0 ρ s.h.get w) (hfree : ∀ k, s.nx ≤ k → k < s'.nx → ρ k = none) (ha : conc ρ a = some A) (hx : conc ρ x = some X) (h : Run (appendA E t xt a x) s v s') :
    Does P B w0 ρ s s' w (Builtin.append_ #[t, xt] ty #[A, X]) v := by
  unfold appendA at h
  replace h := bnd_some h; obtain ⟨ti, s1, h1, h⟩ := h
  obtain ⟨hti, rfl⟩ := tyOf_some h1
  have hty := hT.ty t ti hti
  split at h
  · rename_i el hd
    replace h := bnd_some h; obtain ⟨te, s2, h2, h⟩ := h
    obtain ⟨hte, rfl⟩ := tyOf_some h2
    have htye := hT.ty el te hte
    replace h := bnd_some h; obtain ⟨tx, s3, h3, h⟩ := h
    obtain ⟨htx, rfl⟩ := tyOf_some h3
    have htyx := hT.ty xt tx htx
    split at h
    · rename_i hseq
      split at h
      · rename_i n len hpos hlx hls
        have hpos := blt_true hpos
        split at h
        · rename_i hfit h63
          have hfit := ble_true hfit
          have h63 := ble_true h63
          replace h := bnd_some h; obtain ⟨new, s4, h4, h⟩ := h
          obtain ⟨hrd, L, hL, hf, hfl1, hfl2⟩ := first_snd (P := P) hr hx hlx (Nat.le_refl _) h4
          obtain ⟨_, L', hL', hf', _, _⟩ := first_snd (P := P) hr.drew hx hlx (Nat.le_refl _) h4
          have e : L' = L := by rw [hL] at hL'; cases hL'; rfl
          subst e
          split at h
          · rename_i hone
            obtain ⟨i, z, hi, hsz, hby, hz, hiz⟩ := htye.info
            have hnews : News P ρ w te.size n xt X new L' := by
              refine ⟨⟨?_, fun w' => run_lenOf hx hlx w', hf, hf', ?_, concL_one hL hone⟩, hL, hone⟩
              · rcases seqOk_kind hseq with ⟨e', hd'⟩ | hd'
                · exact .inl ⟨e', by rw [htyx.under, hd']⟩
                · exact .inr (by rw [htyx.under, hd'])
              · by_cases hs : ∃ b, x = .str b
                · obtain ⟨b, rfl⟩ := hs
                  rw [hfl2 b rfl, seqOk_str hseq, Nat.mul_one]
                · exact hfl1 (fun b e => hs ⟨b, e⟩)
            have hcut : ∀ c, c < len + n → Builtin.nextslicecap (len + n) c * i.bytes ≤ 281474976710656 := fun c hc => by
              rw [hby]
              refine Nat.le_trans (Nat.mul_le_mul_right _ (nextslicecap_le hc)) (Nat.le_trans (Nat.mul_le_mul_right _ ?_) hfit)
              omega
            refine Does.trans_reads hrd ?_
            exact appendTo_snd ty hty htye hi hsz hiz hz (by rw [hd]) hpos (by rw [hrd.1]; exact hr) (by rw [hrd.2]; exact hfree) ha hls hnews (by omega) hcut h
          · exact (fail_some h).elim
        · exact (fail_some h).elim
      · exact (fail_some h).elim
    · exact (fail_some h).elim
  · exact (fail_some h).elim
end
end Go.Aex
