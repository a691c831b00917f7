/- Abstract memory and the program's: what a state tells of a world. -/
import Derived.Test.YtefleapekgbpcaaGreatDoorAexC
import Derived.Below
import Derived.Laws.Cells
set_option linter.unusedVariables false
namespace Go.Aex
open Go.RowKit

/-- Where a row lies: its block, the cell at which it begins, and how many elements there is room for. -/
structure Pl where
  blk : Nat
  base : Nat
  cap : Nat
abbrev Ren := Nat → Option Pl

mutual
def conc (ρ : Ren) : AV → Option Value
  | .bool b => some (.bool b)
  | .int k n => some (.int k n)
  | .str s => some (.string ⟨s.toArray⟩)
  | .ptr i o => (ρ i).map fun p => .pointer (some ⟨p.blk, p.base + o, none⟩)
  | .nilptr => some (.pointer none)
  | .slice i o len (.lit c) => (ρ i).map fun p => .slice (some ⟨p.blk, p.base + o, none⟩) len c
  | .slice i o len (.rest k) => (ρ i).map fun p => .slice (some ⟨p.blk, p.base + o, none⟩) len (p.cap - k)
  | .eslice i o0 o1 k => (ρ i).map fun p => .slice (some ⟨p.blk, p.base + (if p.cap - k = 0 then o0 else o1), none⟩) 0 (p.cap - k)
  | .nilslice => some (.slice none 0 0)
  | .map i => (ρ i).map fun p => .map (some p.blk)
  | .nilmap => some (.map none)
  | .chan i => (ρ i).map fun p => .chan (some p.blk)
  | .nilchan => some (.chan none)
  | .func fn a b => match concL ρ a, concL ρ b with
    | some x, some y => some (.func fn x.toArray y.toArray)
    | _, _ => none
  | .yield i => (ρ i).map fun p => .func (.yield p.blk) #[] #[]
  | .nilfunc => some .nilFunc
  | .iface t v => (conc ρ v).map fun x => .iface t x
  | .nilface => some .nilIface
  | .agg l => (concL ρ l).map fun x => .agg x.toArray
  | .tuple l => (concL ρ l).map fun x => .tuple x.toArray
  | .raw v => some v
def concL (ρ : Ren) : List AV → Option (List Value)
  | [] => some []
  | v :: l => match conc ρ v, concL ρ l with
    | some x, some y => some (x :: y)
    | _, _ => none
end

/-- More names are known. -/
def Le (ρ ρ' : Ren) : Prop := ∀ i p, ρ i = some p → ρ' i = some p
theorem Le.refl (ρ : Ren) : Le ρ ρ := fun _ _ h => h
theorem Le.trans {a b c : Ren} (h : Le a b) (k : Le b c) : Le a c := fun i p e => k i p (h i p e)
theorem concL_cons {ρ : Ren} {v : AV} {l : List AV} {L : List Value} (h : concL ρ (v :: l) = some L) : ∃ x y, conc ρ v = some x ∧ concL ρ l = some y ∧ L = x :: y := by
  simp only [concL] at h
  split at h
  · rename_i x y hx hy
    cases h
    exact ⟨x, y, hx, hy, rfl⟩
  · cases h
theorem concL_mk {ρ : Ren} {v : AV} {l : List AV} {x : Value} {y : List Value} (hx : conc ρ v = some x) (hy : concL ρ l = some y) : concL ρ (v :: l) = some (x :: y) := by
  simp only [concL, hx, hy]
theorem map_mono {α β : Type} {f : α → β} {x y : Option α} {V : β} (hxy : ∀ p, x = some p → y = some p) (h : x.map f = some V) : y.map f = some V := by
  cases x with
  | none => cases h
  | some p => rw [hxy p rfl]; exact h
mutual
theorem conc_mono {ρ ρ' : Ren} (h : Le ρ ρ') : ∀ (v : AV) (V : Value), conc ρ v = some V → conc ρ' v = some V
  | .bool b, V, e => by simpa only [conc] using e
  | .int k n, V, e => by simpa only [conc] using e
  | .str s, V, e => by simpa only [conc] using e
  | .ptr i o, V, e => by simp only [conc] at e ⊢; exact map_mono (h i) e
  | .nilptr, V, e => by simpa only [conc] using e
  | .slice i o len (.lit c), V, e => by simp only [conc] at e ⊢; exact map_mono (h i) e
  | .slice i o len (.rest k), V, e => by simp only [conc] at e ⊢; exact map_mono (h i) e
  | .eslice i o0 o1 k, V, e => by simp only [conc] at e ⊢; exact map_mono (h i) e
  | .nilslice, V, e => by simpa only [conc] using e
  | .map i, V, e => by simp only [conc] at e ⊢; exact map_mono (h i) e
  | .nilmap, V, e => by simpa only [conc] using e
  | .chan i, V, e => by simp only [conc] at e ⊢; exact map_mono (h i) e
  | .nilchan, V, e => by simpa only [conc] using e
  | .func fn a b, V, e => by
    simp only [conc] at e ⊢
    split at e
    · rename_i x y hx hy
      rw [concL_mono h a x hx, concL_mono h b y hy]; exact e
    · cases e
  | .yield i, V, e => by simp only [conc] at e ⊢; exact map_mono (h i) e
  | .nilfunc, V, e => by simpa only [conc] using e
  | .iface t v, V, e => by simp only [conc] at e ⊢; exact map_mono (conc_mono h v) e
  | .nilface, V, e => by simpa only [conc] using e
  | .agg l, V, e => by simp only [conc] at e ⊢; exact map_mono (concL_mono h l) e
  | .tuple l, V, e => by simp only [conc] at e ⊢; exact map_mono (concL_mono h l) e
  | .raw v, V, e => by simpa only [conc] using e
theorem concL_mono {ρ ρ' : Ren} (h : Le ρ ρ') : ∀ (l : List AV) (L : List Value), concL ρ l = some L → concL ρ' l = some L
  | [], L, e => by simpa only [concL] using e
  | v :: l, L, e => by
    obtain ⟨x, y, hx, hy, rfl⟩ := concL_cons e
    exact concL_mk (conc_mono h v x hx) (concL_mono h l y hy)
end
theorem concL_length {ρ : Ren} : ∀ {l : List AV} {L : List Value}, concL ρ l = some L → L.length = l.length
  | [], L, e => by simp only [concL] at e; cases e; rfl
  | v :: l, L, e => by
    obtain ⟨x, y, hx, hy, rfl⟩ := concL_cons e
    simp [concL_length hy]
theorem concL_get {ρ : Ren} : ∀ {l : List AV} {L : List Value}, concL ρ l = some L → ∀ (k : Nat) (v : AV), l[k]? = some v → ∃ V, conc ρ v = some V ∧ L[k]? = some V
  | [], L, e, k, v, h => by simp at h
  | u :: l, L, e, k, v, h => by
    obtain ⟨x, y, hx, hy, rfl⟩ := concL_cons e
    cases k with
    | zero => simp at h; subst h; exact ⟨x, hx, by simp⟩
    | succ k => simp at h; obtain ⟨V, h1, h2⟩ := concL_get hy k v h; exact ⟨V, h1, by simpa using h2⟩
theorem nth_eq {α : Type} : ∀ (l : List α) (n : Nat), nth l n = l[n]?
  | [], n => by cases n <;> rfl
  | x :: l, 0 => by simp [nth]
  | x :: l, n + 1 => by simp [nth, nth_eq l n]

/-! ### objects -/
def liveO : AObj → Bool
  | .dead => false
  | _ => true
def concE (ρ : Ren) : List (AV × AV × Nat) → Option (List MapEntry)
  | [] => some []
  | (k, v, b) :: l => match conc ρ k, conc ρ v, concE ρ l with
    | some x, some y, some z => some (⟨x, y, b⟩ :: z)
    | _, _, _ => none
theorem concE_cons {ρ : Ren} {k v : AV} {b : Nat} {l : List (AV × AV × Nat)} {L : List MapEntry} (h : concE ρ ((k, v, b) :: l) = some L) : ∃ x y z, conc ρ k = some x ∧ conc ρ v = some y ∧ concE ρ l = some z ∧ L = ⟨x, y, b⟩ :: z := by
  simp only [concE] at h
  split at h
  · rename_i x y z hx hy hz
    cases h
    exact ⟨x, y, z, hx, hy, hz, rfl⟩
  · cases h
theorem concE_mono {ρ ρ' : Ren} (h : Le ρ ρ') : ∀ (l : List (AV × AV × Nat)) (L : List MapEntry), concE ρ l = some L → concE ρ' l = some L
  | [], L, e => by simpa only [concE] using e
  | (k, v, b) :: l, L, e => by
    obtain ⟨x, y, z, hx, hy, hz, rfl⟩ := concE_cons e
    simp only [concE, conc_mono h k x hx, conc_mono h v y hy, concE_mono h l z hz]

/-- The temporaries of a frame. -/
def TRel (ρ : Ren) (n : Nat) (t : T AV) (tm : Array Value) : Prop := tm.size = n ∧ ∀ k, conc ρ (getA t k) = some (tm.getD k undef)
theorem TRel.mono {ρ ρ' : Ren} (h : Le ρ ρ') {n : Nat} {t : T AV} {tm : Array Value} (k : TRel ρ n t tm) : TRel ρ' n t tm := ⟨k.1, fun i => conc_mono h _ _ (k.2 i)⟩
def outCode : Out → Option Code
  | .norm => none
  | .exit i => some (.exit i)
  | .ret => some .ret
def stOk (L : Loop) : LSt → Prop
  | .ready => L.state = .ready ∧ L.pending = none
  | .busy => L.state = .busy
  | .done o => L.state = .done ∧ L.pending = outCode o
  | .over => L.state = .exhausted
/-- What an object's name tells of the memory. -/
def ObjRel (ρ : Ren) (i : Nat) (o : AObj) (w : World) : Prop := match o with
  | .dead => True
  | .row e cs => ∃ p c t fr, ρ i = some p ∧ w.heap[p.blk]? = some (.cells c t fr) ∧ p.base + p.cap * e ≤ c.size ∧ cs.length ≤ p.cap * e ∧
      (fr.1 = fr.2 ∨ c.size ≤ fr.1) ∧ ∀ k v, cs[k]? = some (some v) → ∃ V, conc ρ v = some V ∧ c[p.base + k]? = some V
  | .map es clock => ∃ p L, ρ i = some p ∧ concE ρ es = some L ∧ w.heap[p.blk]? = some (.map L.toArray clock)
  | .chan cap buf s r => ∃ p L, ρ i = some p ∧ concL ρ buf = some L ∧ w.heap[p.blk]? = some (.chan cap L.toArray false s r false)
  | .defd => ∃ p, ρ i = some p ∧ w.heap[p.blk]? = some (.deferred (some []))
  | .loop n t ps as body st => ∃ p L, ρ i = some p ∧ TRel ρ n t L.tmps ∧ L.params = ps.toArray ∧ L.assign = as ∧ L.body = body ∧ stOk L st ∧ w.heap[p.blk]? = some (.loop L)

theorem ObjRel.mono {ρ ρ' : Ren} (h : Le ρ ρ') {i : Nat} {o : AObj} {w : World} (hr : ObjRel ρ i o w) : ObjRel ρ' i o w := by
  cases o with
  | dead => trivial
  | row e cs =>
    obtain ⟨p, c, t, fr, h1, h2, h3, h4, h5, h6⟩ := hr
    exact ⟨p, c, t, fr, h _ _ h1, h2, h3, h4, h5, fun k v hk => let ⟨V, a, b⟩ := h6 k v hk; ⟨V, conc_mono h _ _ a, b⟩⟩
  | map es clock =>
    obtain ⟨p, L, h1, h2, h3⟩ := hr
    exact ⟨p, L, h _ _ h1, concE_mono h _ _ h2, h3⟩
  | chan cap buf s r =>
    obtain ⟨p, L, h1, h2, h3⟩ := hr
    exact ⟨p, L, h _ _ h1, concL_mono h _ _ h2, h3⟩
  | defd =>
    obtain ⟨p, h1, h2⟩ := hr
    exact ⟨p, h _ _ h1, h2⟩
  | loop n t ps as body st =>
    obtain ⟨p, L, h1, h2, h3, h4, h5, h6, h7⟩ := hr
    exact ⟨p, L, h _ _ h1, h2.mono h, h3, h4, h5, h6, h7⟩
theorem ObjRel.world {ρ : Ren} {i : Nat} {o : AObj} {w w' : World} (hw : ∀ p, ρ i = some p → w'.heap[p.blk]? = w.heap[p.blk]?) (hr : ObjRel ρ i o w) : ObjRel ρ i o w' := by
  cases o with
  | dead => trivial
  | row e cs =>
    obtain ⟨p, c, t, fr, h1, h2, h3, h4, h5, h6⟩ := hr
    exact ⟨p, c, t, fr, h1, (hw p h1).trans h2, h3, h4, h5, h6⟩
  | map es clock =>
    obtain ⟨p, L, h1, h2, h3⟩ := hr
    exact ⟨p, L, h1, h2, (hw p h1).trans h3⟩
  | chan cap buf s r =>
    obtain ⟨p, L, h1, h2, h3⟩ := hr
    exact ⟨p, L, h1, h2, (hw p h1).trans h3⟩
  | defd =>
    obtain ⟨p, h1, h2⟩ := hr
    exact ⟨p, h1, (hw p h1).trans h2⟩
  | loop n t ps as body st =>
    obtain ⟨p, L, h1, h2, h3, h4, h5, h6, h7⟩ := hr
    exact ⟨p, L, h1, h2, h3, h4, h5, h6, (hw p h1).trans h7⟩
theorem ObjRel.blk {ρ : Ren} {i : Nat} {o : AObj} {w : World} (hl : liveO o = true) (hr : ObjRel ρ i o w) : ∃ p, ρ i = some p ∧ p.blk < w.heap.size := by
  have lt : ∀ {b : Nat} {x : Obj}, w.heap[b]? = some x → b < w.heap.size := fun {b x} h => by
    rcases Nat.lt_or_ge b w.heap.size with h' | h'
    · exact h'
    · rw [Array.getElem?_eq_none h'] at h; cases h
  cases o with
  | dead => cases hl
  | row e cs => obtain ⟨p, c, t, fr, h1, h2, _⟩ := hr; exact ⟨p, h1, lt h2⟩
  | map es clock => obtain ⟨p, L, h1, h2, h3⟩ := hr; exact ⟨p, h1, lt h3⟩
  | chan cap buf s r => obtain ⟨p, L, h1, h2, h3⟩ := hr; exact ⟨p, h1, lt h3⟩
  | defd => obtain ⟨p, h1, h2⟩ := hr; exact ⟨p, h1, lt h2⟩
  | loop n t ps as body st => obtain ⟨p, L, h1, h2, h3, h4, h5, h6, h7⟩ := hr; exact ⟨p, h1, lt h7⟩

abbrev Hp := Nat → Option AObj
def liveAt (h : Hp) (i : Nat) : Prop := ∃ o, h i = some o ∧ liveO o = true
def upd (h : Hp) (i : Nat) (o : AObj) : Hp := fun k => if k = i then some o else h k

/-- What a state tells of a world: every object that lives stands where its name says, no two in one block, all behind what was there when it began. -/
structure Rel (B : Nat) (w0 : World) (ρ : Ren) (h : Hp) (w : World) : Prop where
  bel : Below B w0 w
  hB : B ≤ w0.heap.size
  objs : ∀ i o, h i = some o → ObjRel ρ i o w
  inj : ∀ i j p q, liveAt h i → liveAt h j → ρ i = some p → ρ j = some q → p.blk = q.blk → i = j
  low : ∀ i p, liveAt h i → ρ i = some p → B ≤ p.blk

section
variable {B : Nat} {w0 w w' : World} {ρ ρ' : Ren} {h h' : Hp}
theorem Rel.ext (hr : Rel B w0 ρ h w) (e : ∀ k, h' k = h k) : Rel B w0 ρ h' w := by
  have : h' = h := funext e
  subst this; exact hr
theorem Rel.blk_lt (hr : Rel B w0 ρ h w) {i : Nat} {p : Pl} (hl : liveAt h i) (hp : ρ i = some p) : p.blk < w.heap.size := by
  obtain ⟨o, ho, hlo⟩ := hl
  obtain ⟨q, hq, hlt⟩ := (hr.objs i o ho).blk hlo
  rw [hp] at hq; cases hq; exact hlt
/-- A draw. -/
theorem Rel.drew (hr : Rel B w0 ρ h w) : Rel B w0 ρ h w.drew :=
  ⟨hr.bel.drew, hr.hB, fun i o ho => (hr.objs i o ho).world (fun _ _ => rfl), hr.inj, hr.low⟩
/-- One object is another now; its block alone was written. -/
theorem Rel.upd (hr : Rel B w0 ρ h w) {i : Nat} {p : Pl} {o : AObj} (hl : liveAt h i) (hp : ρ i = some p)
    (hos : w'.os = w.os) (htape : w'.tape = w.tape) (hout : w'.output = w.output) (hsz : w'.heap.size = w.heap.size) (hblk : ∀ b, b ≠ p.blk → w'.heap[b]? = w.heap[b]?)
    (ho : ObjRel ρ i o w') : Rel B w0 ρ (upd h i o) w' := by
  have hlow := hr.low i p hl hp
  refine ⟨hr.bel.trans ⟨hos, htape, hout, by omega, fun k hk => hblk k (by omega)⟩, hr.hB, ?_, ?_, ?_⟩
  · intro j oj hj
    unfold Aex.upd at hj
    split at hj
    · rename_i e; cases hj; subst e; exact ho
    · rename_i e
      cases hlv : liveO oj with
      | false => cases oj <;> first | trivial | cases hlv
      | true =>
        refine (hr.objs j oj hj).world (fun q hq => hblk _ fun eb => e ?_)
        exact hr.inj j i q p ⟨oj, hj, hlv⟩ hl hq hp eb
  · intro a b pa pb la lb ha hb eb
    have lift : ∀ x, liveAt (Aex.upd h i o) x → x = i ∨ liveAt h x := by
      rintro x ⟨ox, hx, hlx⟩
      unfold Aex.upd at hx
      split at hx
      · rename_i e; exact .inl e
      · exact .inr ⟨ox, hx, hlx⟩
    have la' : liveAt h a := (lift a la).elim (fun e => e ▸ hl) id
    have lb' : liveAt h b := (lift b lb).elim (fun e => e ▸ hl) id
    exact hr.inj a b pa pb la' lb' ha hb eb
  · intro a pa la ha
    obtain ⟨oa, hoa, hla⟩ := la
    unfold Aex.upd at hoa
    split at hoa
    · rename_i e; subst e; rw [hp] at ha; cases ha; exact hlow
    · exact hr.low a pa ⟨oa, hoa, hla⟩ ha
/-- An object is given up. -/
theorem Rel.kill (hr : Rel B w0 ρ h w) (i : Nat) : Rel B w0 ρ (Aex.upd h i .dead) w := by
  have lift : ∀ x, liveAt (Aex.upd h i .dead) x → x ≠ i ∧ liveAt h x := by
    rintro x ⟨ox, hx, hlx⟩
    unfold Aex.upd at hx
    split at hx
    · cases hx; cases hlx
    · rename_i e; exact ⟨e, ox, hx, hlx⟩
  refine ⟨hr.bel, hr.hB, ?_, fun a b pa pb la lb => hr.inj a b pa pb (lift a la).2 (lift b lb).2, fun a pa la => hr.low a pa (lift a la).2⟩
  intro j oj hj
  unfold Aex.upd at hj
  split at hj
  · cases hj; trivial
  · exact hr.objs j oj hj
/-- A new object, in a block that no one has. -/
theorem Rel.add (hr : Rel B w0 ρ h w) {n : Nat} {p : Pl} {o : AObj} (hn : ρ n = none) (hle : Le ρ ρ') (hp : ρ' n = some p) (hoth : ∀ k, k ≠ n → ρ' k = ρ k)
    (hfree : ∀ i q, liveAt h i → ρ i = some q → q.blk ≠ p.blk) (hlow : B ≤ p.blk)
    (hos : w'.os = w.os) (htape : w'.tape = w.tape) (hout : w'.output = w.output) (hsz : w.heap.size ≤ w'.heap.size) (hblk : ∀ b, b ≠ p.blk → b < w.heap.size → w'.heap[b]? = w.heap[b]?)
    (ho : ObjRel ρ' n o w') : Rel B w0 ρ' (Aex.upd h n o) w' := by
  have lift : ∀ x, liveAt (Aex.upd h n o) x → x = n ∨ (x ≠ n ∧ liveAt h x) := by
    rintro x ⟨ox, hx, hlx⟩
    unfold Aex.upd at hx
    split at hx
    · rename_i e; exact .inl e
    · rename_i e; exact .inr ⟨e, ox, hx, hlx⟩
  refine ⟨hr.bel.trans ⟨hos, htape, hout, hsz, fun k hk => hblk k (by omega) (by have := hr.bel.size; have := hr.hB; omega)⟩, hr.hB, ?_, ?_, ?_⟩
  · intro j oj hj
    unfold Aex.upd at hj
    split at hj
    · rename_i e; cases hj; subst e; exact ho
    · rename_i e
      cases hlv : liveO oj with
      | false => cases oj <;> first | trivial | cases hlv
      | true =>
        have hlj : liveAt h j := ⟨oj, hj, hlv⟩
        refine ((hr.objs j oj hj).world (w' := w') (fun q hq => hblk _ (hfree j q hlj hq) (hr.blk_lt hlj hq))).mono hle
  · intro a b pa pb la lb ha hb eb
    rcases lift a la with rfl | ⟨na, la'⟩ <;> rcases lift b lb with rfl | ⟨nb, lb'⟩
    · rfl
    · rw [hp] at ha; cases ha
      rw [hoth b nb] at hb
      exact absurd eb.symm (hfree b pb lb' hb)
    · rw [hp] at hb; cases hb
      rw [hoth a na] at ha
      exact absurd eb (hfree a pa la' ha)
    · rw [hoth a na] at ha; rw [hoth b nb] at hb
      exact hr.inj a b pa pb la' lb' ha hb eb
  · intro a pa la ha
    rcases lift a la with rfl | ⟨na, la'⟩
    · rw [hp] at ha; cases ha; exact hlow
    · rw [hoth a na] at ha; exact hr.low a pa la' ha
end

def setR (ρ : Ren) (n : Nat) (p : Pl) : Ren := fun k => if k = n then some p else ρ k
theorem setR_le {ρ : Ren} {n : Nat} (p : Pl) (hn : ρ n = none) : Le ρ (setR ρ n p) := fun i q h => by
  unfold setR; rw [if_neg (fun e => by subst e; rw [hn] at h; cases h)]; exact h
theorem setR_same (ρ : Ren) (n : Nat) (p : Pl) : setR ρ n p n = some p := by simp [setR]
theorem setR_other (ρ : Ren) {n k : Nat} (p : Pl) (h : k ≠ n) : setR ρ n p k = ρ k := by simp [setR, h]
theorem get_set_upd (t : T AObj) (i : Nat) (o : AObj) : (t.set i o).get = upd t.get i o := by
  funext k
  rw [T.get_set]; rfl

/-- Names are made from 'lo' to 'hi' alone. -/
def Ext (ρ ρ' : Ren) (lo hi : Nat) : Prop := Le ρ ρ' ∧ ∀ k, ¬(lo ≤ k ∧ k < hi) → ρ' k = ρ k
theorem Ext.refl (ρ : Ren) (lo hi : Nat) : Ext ρ ρ lo hi := ⟨Le.refl _, fun _ _ => rfl⟩
theorem Ext.trans {a b c : Ren} {lo m hi : Nat} (h : Ext a b lo m) (k : Ext b c m hi) (h1 : lo ≤ m) (h2 : m ≤ hi) : Ext a c lo hi :=
  ⟨h.1.trans k.1, fun j hj => (k.2 j (by omega)).trans (h.2 j (by omega))⟩
end Go.Aex
