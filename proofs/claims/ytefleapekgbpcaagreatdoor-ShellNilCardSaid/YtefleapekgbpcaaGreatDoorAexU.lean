/- A region whose order is open: whatever order, the same comes of it. -/
import Derived.Test.YtefleapekgbpcaaGreatDoorAexT
set_option linter.unusedVariables false
set_option linter.unusedSimpArgs false
namespace Go.Aex
open Go.RowKit Go.Conc
def Touch (f : Foot) (k : Nat) : Prop := k ∈ f.wr ∨ (f.lo ≤ k ∧ k < f.hi)
instance (f : Foot) (k : Nat) : Decidable (Touch f k) := by unfold Touch; exact inferInstance
/-- One run of a region's operations, in the text's order. -/
structure Trace (E : Env) (cf : Bool → Nat → List AV → M AV) (n : Nat) (all : List Oper) (l : List Oper) (S : Nat → St) (Tm : Nat → T AV) (V : Nat → AV) (F : Nat → Foot) : Prop where
  run : ∀ (i : Nat) (o : Oper), l[i]? = some o → Run (footed (stepA E cf all (Tm i) o)) (S i) (V i, F i) (S (i + 1))
  put : ∀ (i : Nat) (o : Oper), l[i]? = some o → Run (putA n (Tm i) o.dst (V i)) (S (i + 1)) (Tm (i + 1)) (S (i + 1))
theorem putA_state {n : Nat} {t t' : T AV} {d : Option Tmp} {v : AV} {s s' : St} (h : Run (putA n t d v) s t' s') : s' = s := by
  unfold putA at h
  split at h
  · obtain ⟨rfl, rfl⟩ := ret_some h; rfl
  · split at h
    · obtain ⟨rfl, rfl⟩ := ret_some h; rfl
    · exact (fail_some h).elim
theorem drawA_trace {E : Env} {cf : Bool → Nat → List AV → M AV} {n : Nat} {all : List Oper} : ∀ (l : List Oper) (t t' : T AV) (fs fs' : List Foot) (s s' : St), Run (drawA E cf n all l t fs) s (t', fs') s' →
    ∃ S Tm V F, Trace E cf n all l S Tm V F ∧ S 0 = s ∧ Tm 0 = t ∧ S l.length = s' ∧ Tm l.length = t' ∧ fs' = fs ++ (List.range l.length).map F
  | [], t, t', fs, fs', s, s', h => by
    unfold drawA at h
    obtain ⟨h1, rfl⟩ := ret_some h
    cases h1
    exact ⟨fun _ => s, fun _ => t, fun _ => undefA, fun _ => ⟨Ks.emp, Ks.emp, 0, 0⟩, ⟨fun i o hi => by simp at hi, fun i o hi => by simp at hi⟩, rfl, rfl, rfl, rfl, by simp⟩
  | o :: l, t, t', fs, fs', s, s', h => by
    unfold drawA at h
    replace h := bnd_some h; obtain ⟨r, s1, g1, h⟩ := h
    replace h := bnd_some h; obtain ⟨t1, s2, g2, h⟩ := h
    have e2 := putA_state g2
    subst e2
    obtain ⟨S, Tm, V, F, tr, h1, h2, h3, h4, h5⟩ := drawA_trace l t1 t' (fs ++ [r.2]) fs' s2 s' h
    refine ⟨fun i => match i with | 0 => s | i + 1 => S i, fun i => match i with | 0 => t | i + 1 => Tm i, fun i => match i with | 0 => r.1 | i + 1 => V i, fun i => match i with | 0 => r.2 | i + 1 => F i, ⟨fun i u hu => ?_, fun i u hu => ?_⟩, rfl, rfl, h3, h4, ?_⟩
    · cases i with
      | zero => simp at hu; subst hu; simp only [h1]; exact g1
      | succ i => exact tr.run i u (by simpa using hu)
    · cases i with
      | zero => simp at hu; subst hu; simp only [h1, h2]; exact g2
      | succ i => exact tr.put i u (by simpa using hu)
    · rw [h5, List.length_cons, List.range_succ_eq_map]
      simp
def hd (S : Nat → St) (F : Nat → Foot) (D : Nat → Bool) : Nat → Nat → Option AObj
  | 0, k => (S 0).h.get k
  | j + 1, k => if D j = true ∧ Touch (F j) k then (S (j + 1)).h.get k else hd S F D j k
def td (ops : List Oper) (t0 : T AV) (V : Nat → AV) (D : Nat → Bool) : Nat → Nat → AV
  | 0, d => getA t0 d
  | j + 1, d => if D j = true ∧ (ops[j]?).bind (·.dst) = some d then V j else td ops t0 V D j d
section
variable {E : Env} {cf : Bool → Nat → List AV → M AV} {n : Nat} {ops : List Oper} {S : Nat → St} {Tm : Nat → T AV} {V : Nat → AV} {F : Nat → Foot}
theorem Trace.foot (tr : Trace E cf n ops ops S Tm V F) (hcf : ∀ b g args, Aex.Good (cf b g args)) {i : Nat} (hi : i < ops.length) :
    (F i).lo = (S i).nx ∧ (F i).hi = (S (i + 1)).nx ∧ (S i).nx ≤ (S (i + 1)).nx := by
  have ho : ops[i]? = some ops[i] := List.getElem?_eq_getElem hi
  obtain ⟨s1, h1, h2, h3⟩ := footed_some (tr.run i _ ho)
  have hm := (good_stepA E cf hcf ops (Tm i) ops[i]).mono h1
  simp only at h2
  rw [h2, h3]
  exact ⟨rfl, rfl, hm.1⟩
theorem Trace.nx_mono (tr : Trace E cf n ops ops S Tm V F) (hcf : ∀ b g args, Aex.Good (cf b g args)) : ∀ (j i : Nat), i ≤ j → j ≤ ops.length → (S i).nx ≤ (S j).nx
  | 0, i, h, _ => by obtain rfl : i = 0 := by omega
                     exact Nat.le_refl _
  | j + 1, i, h, hj => by
    by_cases e : i = j + 1
    · subst e; exact Nat.le_refl _
    · exact Nat.le_trans (tr.nx_mono hcf j i (by omega) (by omega)) (tr.foot hcf (i := j) (by omega)).2.2
theorem Trace.frame (tr : Trace E cf n ops ops S Tm V F) (hcf : ∀ b g args, Aex.Good (cf b g args)) {i : Nat} (hi : i < ops.length) {k : Nat} (hk : ¬ Touch (F i) k) : (S (i + 1)).h.get k = (S i).h.get k := by
  have ho : ops[i]? = some ops[i] := List.getElem?_eq_getElem hi
  obtain ⟨s1, h1, h2, h3⟩ := footed_some (tr.run i _ ho)
  have hf := (good_stepA E cf hcf ops (Tm i) ops[i]).frame h1
  simp only at h2
  rw [h2] at hk
  rw [h3]
  exact hf k (fun e => hk (.inl e)) (fun e => hk (.inr e))
theorem Trace.keep (tr : Trace E cf n ops ops S Tm V F) (hcf : ∀ b g args, Aex.Good (cf b g args)) : ∀ (j i : Nat), i ≤ j → j ≤ ops.length → ∀ k, (S i).h.get k ≠ none → (S j).h.get k ≠ none
  | 0, i, h, _, k, hk => by obtain rfl : i = 0 := by omega
                            exact hk
  | j + 1, i, h, hj, k, hk => by
    by_cases e : i = j + 1
    · subst e; exact hk
    · have h0 := tr.keep hcf j i (by omega) (by omega) k hk
      have ho : ops[j]? = some ops[j] := List.getElem?_eq_getElem (by omega)
      obtain ⟨s1, h1, h2, h3⟩ := footed_some (tr.run j _ ho)
      have hf := (good_stepA E cf hcf ops (Tm j) ops[j]).keep h1
      rw [h3]
      exact hf.1 k h0
theorem Trace.made (tr : Trace E cf n ops ops S Tm V F) (hcf : ∀ b g args, Aex.Good (cf b g args)) {i : Nat} (hi : i < ops.length) {k : Nat} (hk : (F i).lo ≤ k ∧ k < (F i).hi) : (S i).h.get k = none := by
  have ho : ops[i]? = some ops[i] := List.getElem?_eq_getElem hi
  obtain ⟨s1, h1, h2, h3⟩ := footed_some (tr.run i _ ho)
  have hf := (good_stepA E cf hcf ops (Tm i) ops[i]).keep h1
  simp only at h2
  rw [h2] at hk
  exact hf.2 k hk
theorem Trace.wrote (tr : Trace E cf n ops ops S Tm V F) (hcf : ∀ b g args, Aex.Good (cf b g args)) {i : Nat} (hi : i < ops.length) {k : Nat} (hk : k ∈ (F i).wr) : k ∈ (F i).rd ∧ ((S i).h.get k ≠ none ∨ ((F i).lo ≤ k ∧ k < (F i).hi)) := by
  have ho : ops[i]? = some ops[i] := List.getElem?_eq_getElem hi
  obtain ⟨s1, h1, h2, h3⟩ := footed_some (tr.run i _ ho)
  have hf := (good_stepA E cf hcf ops (Tm i) ops[i]).wrote h1
  simp only at h2
  rw [h2] at hk ⊢
  rcases hf k hk with h | ⟨h, h'⟩
  · exact absurd h Ks.not_mem_emp
  · exact ⟨h, h'⟩
/-- What a step reads or makes, a step that may come in either order doesn't touch. -/
theorem Trace.apart (tr : Trace E cf n ops ops S Tm V F) (hcf : ∀ b g args, Aex.Good (cf b g args)) {i j : Nat} (hi : i < ops.length) (hj : j < ops.length) (hne : i ≠ j) (ha : Apart (F i) (F j)) {k : Nat} (hk : k ∈ (F i).rd ∨ ((F i).lo ≤ k ∧ k < (F i).hi)) : ¬ Touch (F j) k := by
  have fi := tr.foot hcf hi
  have fj := tr.foot hcf hj
  rintro (ht | ht)
  · rcases hk with hk | hk
    · exact ha.ba k ht hk
    · obtain ⟨h1, h2⟩ := tr.wrote hcf hj ht
      rcases Nat.lt_or_ge i j with hlt | hge
      · exact ha.na k hk h1
      · have hnone := tr.made hcf hi hk
        rcases h2 with h2 | h2
        · exact tr.keep hcf i j (by omega) (by omega) k h2 hnone
        · have := tr.nx_mono hcf i (j + 1) (by omega) (by omega)
          omega
  · rcases hk with hk | hk
    · exact ha.nb k ht hk
    · rcases Nat.lt_or_ge i j with hlt | hge
      · have := tr.nx_mono hcf j (i + 1) (by omega) (by omega); omega
      · have := tr.nx_mono hcf i (j + 1) (by omega) (by omega); omega
theorem Apart.symm {a b : Foot} (h : Apart a b) : Apart b a := ⟨h.ba, h.ab, h.nb, h.na⟩
/-- Two steps in either order touch nothing in common. -/
theorem Trace.apart_touch (tr : Trace E cf n ops ops S Tm V F) (hcf : ∀ b g args, Aex.Good (cf b g args)) {i j : Nat} (hi : i < ops.length) (hj : j < ops.length) (hne : i ≠ j) (ha : Apart (F i) (F j)) {k : Nat} (hk : Touch (F i) k) : ¬ Touch (F j) k := by
  rcases hk with hk | hk
  · exact tr.apart hcf hi hj hne ha (.inl (tr.wrote hcf hi hk).1)
  · exact tr.apart hcf hi hj hne ha (.inr hk)
/-- What an operation reads is there when it comes. -/
theorem hd_reads (tr : Trace E cf n ops ops S Tm V F) (hcf : ∀ b g args, Aex.Good (cf b g args)) {D : Nat → Bool} {i : Nat} (hi : i < ops.length) (hDi : D i = false)
    (hbefore : ∀ j, j < i → D j = false → Apart (F i) (F j)) (hbehind : ∀ j, i < j → j < ops.length → D j = true → Apart (F i) (F j)) {k : Nat} (hk : k ∈ (F i).rd ∨ ((F i).lo ≤ k ∧ k < (F i).hi)) :
    ∀ j, j ≤ ops.length → hd S F D j k = if j ≤ i then (S j).h.get k else (S i).h.get k
  | 0, _ => by simp [hd]
  | j + 1, hj => by
    have ih := hd_reads tr hcf hi hDi hbefore hbehind hk j (by omega)
    simp only [hd]
    rcases Nat.lt_trichotomy j i with hlt | heq | hgt
    · rw [if_pos (show j ≤ i by omega)] at ih
      rw [if_pos (show j + 1 ≤ i by omega)]
      by_cases hD : D j = true
      · by_cases ht : Touch (F j) k
        · rw [if_pos ⟨hD, ht⟩]
        · rw [if_neg (fun e => ht e.2), ih, tr.frame hcf (by omega) ht]
      · have hD' : D j = false := by simpa using hD
        rw [if_neg (fun e => hD e.1), ih, tr.frame hcf (by omega) (tr.apart hcf hi (by omega) (by omega) (hbefore j hlt hD') hk)]
    · subst heq
      rw [if_neg (fun e => by rw [hDi] at e; cases e.1), ih, if_pos (Nat.le_refl _), if_neg (show ¬ j + 1 ≤ j by omega)]
    · rw [if_neg (show ¬ j ≤ i by omega)] at ih
      rw [if_neg (show ¬ j + 1 ≤ i by omega)]
      rw [if_neg (fun e => tr.apart hcf hi (by omega) (by omega) (hbehind j hgt (by omega) e.1) hk e.2), ih]
/-- What is there when an operation has been made besides. -/
theorem hd_add (tr : Trace E cf n ops ops S Tm V F) (hcf : ∀ b g args, Aex.Good (cf b g args)) {D D' : Nat → Bool} {i : Nat} (hi : i < ops.length) (hDi : D i = false) (hD1 : D' i = true) (hD2 : ∀ j, j ≠ i → D' j = D j)
    (hbehind : ∀ j, i < j → j < ops.length → D j = true → Apart (F i) (F j)) (k : Nat) :
    ∀ j, j ≤ ops.length → hd S F D' j k = if i < j ∧ Touch (F i) k then (S (i + 1)).h.get k else hd S F D j k
  | 0, _ => by simp [hd]
  | j + 1, hj => by
    have ih := hd_add tr hcf hi hDi hD1 hD2 hbehind k j (by omega)
    simp only [hd]
    rcases Nat.lt_trichotomy j i with hlt | heq | hgt
    · rw [if_neg (fun e => absurd e.1 (by omega))] at ih
      rw [if_neg (fun e => absurd e.1 (by omega) : ¬ (i < j + 1 ∧ Touch (F i) k))]
      by_cases hc : D j = true ∧ Touch (F j) k
      · rw [if_pos hc, if_pos ⟨by rw [hD2 j (by omega)]; exact hc.1, hc.2⟩]
      · rw [if_neg hc, if_neg (fun e => hc ⟨by rw [← hD2 j (by omega)]; exact e.1, e.2⟩), ih]
    · subst heq
      by_cases ht : Touch (F j) k
      · rw [if_pos ⟨hD1, ht⟩, if_pos ⟨by omega, ht⟩]
      · rw [if_neg (fun e => ht e.2), if_neg (fun e => ht e.2), ih, if_neg (fun e => absurd e.1 (by omega)), if_neg (fun e => by rw [hDi] at e; cases e.1)]
    · by_cases ht : Touch (F i) k
      · rw [if_pos ⟨hgt, ht⟩] at ih
        rw [if_neg (fun e => tr.apart_touch hcf hi (by omega) (by omega) (hbehind j hgt (by omega) (by rw [← hD2 j (by omega)]; exact e.1)) ht e.2), ih, if_pos ⟨by omega, ht⟩]
      · rw [if_neg (fun e => ht e.2)] at ih
        rw [if_neg (fun e => ht e.2 : ¬ (i < j + 1 ∧ Touch (F i) k))]
        by_cases hc : D j = true ∧ Touch (F j) k
        · rw [if_pos hc, if_pos ⟨by rw [hD2 j (by omega)]; exact hc.1, hc.2⟩]
        · rw [if_neg hc, if_neg (fun e => hc ⟨by rw [← hD2 j (by omega)]; exact e.1, e.2⟩), ih]
theorem hd_none (D : Nat → Bool) (h : ∀ j, D j = false) (k : Nat) : ∀ j, hd S F D j k = (S 0).h.get k
  | 0 => rfl
  | j + 1 => by simp only [hd]; rw [if_neg (fun e => by rw [h j] at e; cases e.1)]; exact hd_none D h k j
theorem hd_all (tr : Trace E cf n ops ops S Tm V F) (hcf : ∀ b g args, Aex.Good (cf b g args)) (D : Nat → Bool) (h : ∀ j, j < ops.length → D j = true) (k : Nat) : ∀ j, j ≤ ops.length → hd S F D j k = (S j).h.get k
  | 0, _ => rfl
  | j + 1, hj => by
    simp only [hd]
    by_cases ht : Touch (F j) k
    · rw [if_pos ⟨h j (by omega), ht⟩]
    · rw [if_neg (fun e => ht e.2), hd_all tr hcf D h k j (by omega), tr.frame hcf (by omega) ht]
/-! ### temporaries -/
theorem getA_put (tr : Trace E cf n ops ops S Tm V F) {i : Nat} (hi : i < ops.length) (d : Nat) : getA (Tm (i + 1)) d = if (ops[i]?).bind (·.dst) = some d then V i else getA (Tm i) d := by
  have ho : ops[i]? = some ops[i] := List.getElem?_eq_getElem hi
  have h := tr.put i _ ho
  have hb : (ops[i]?).bind (·.dst) = ops[i].dst := by rw [ho]; rfl
  have key : getA (Tm (i + 1)) d = if ops[i].dst = some d then V i else getA (Tm i) d := by
    unfold putA at h
    split at h
    · rename_i hd
      obtain ⟨h1, _⟩ := ret_some h
      rw [if_neg (fun e => by rw [hd] at e; cases e), ← h1]
    · rename_i d' hd
      split at h
      · obtain ⟨h1, _⟩ := ret_some h
        rw [← h1]
        unfold getA
        rw [T.get_set]
        by_cases e : d = d'
        · subst e; rw [if_pos rfl, if_pos hd]
        · rw [if_neg e, if_neg (fun e2 => e (by rw [hd] at e2; cases e2; rfl))]
      · exact (fail_some h).elim
  by_cases e : ops[i].dst = some d
  · rw [if_pos e] at key; rw [if_pos (hb.trans e)]; exact key
  · rw [if_neg e] at key; rw [if_neg (fun e2 => e (hb.symm.trans e2))]; exact key
theorem td_reads (tr : Trace E cf n ops ops S Tm V F) {D : Nat → Bool} {i : Nat} (hi : i < ops.length) (hDi : D i = false) {d : Nat}
    (hbefore : ∀ j, j < i → D j = false → (ops[j]?).bind (·.dst) ≠ some d) (hbehind : ∀ j, i < j → j < ops.length → D j = true → (ops[j]?).bind (·.dst) ≠ some d) :
    ∀ j, j ≤ ops.length → td ops (Tm 0) V D j d = if j ≤ i then getA (Tm j) d else getA (Tm i) d
  | 0, _ => by simp [td]
  | j + 1, hj => by
    have ih := td_reads tr hi hDi hbefore hbehind j (by omega)
    simp only [td]
    rcases Nat.lt_trichotomy j i with hlt | heq | hgt
    · rw [if_pos (show j ≤ i by omega)] at ih
      rw [if_pos (show j + 1 ≤ i by omega)]
      rw [getA_put tr (by omega)]
      by_cases hD : D j = true
      · by_cases ht : (ops[j]?).bind (·.dst) = some d
        · rw [if_pos ⟨hD, ht⟩, if_pos ht]
        · rw [if_neg (fun e => ht e.2), if_neg ht, ih]
      · have hD' : D j = false := by simpa using hD
        rw [if_neg (fun e => hD e.1), if_neg (hbefore j hlt hD'), ih]
    · subst heq
      rw [if_neg (fun e => by rw [hDi] at e; cases e.1), ih, if_pos (Nat.le_refl _), if_neg (show ¬ j + 1 ≤ j by omega)]
    · rw [if_neg (show ¬ j ≤ i by omega)] at ih
      rw [if_neg (show ¬ j + 1 ≤ i by omega)]
      rw [if_neg (fun e => hbehind j hgt (by omega) e.1 e.2), ih]
theorem td_add {t0 : T AV} {D D' : Nat → Bool} {i : Nat} (hi : i < ops.length) (hDi : D i = false) (hD1 : D' i = true) (hD2 : ∀ j, j ≠ i → D' j = D j) (hdis : ∀ j, j < ops.length → j ≠ i → ∀ d, (ops[i]?).bind (·.dst) = some d → (ops[j]?).bind (·.dst) ≠ some d) (d : Nat) :
    ∀ j, j ≤ ops.length → td ops t0 V D' j d = if i < j ∧ (ops[i]?).bind (·.dst) = some d then V i else td ops t0 V D j d
  | 0, _ => by simp [td]
  | j + 1, hj => by
    have ih := td_add (t0 := t0) hi hDi hD1 hD2 hdis d j (by omega)
    simp only [td]
    rcases Nat.lt_trichotomy j i with hlt | heq | hgt
    · rw [if_neg (fun e => absurd e.1 (by omega))] at ih
      rw [if_neg (fun e => absurd e.1 (by omega) : ¬ (i < j + 1 ∧ (ops[i]?).bind (·.dst) = some d))]
      by_cases hc : D j = true ∧ (ops[j]?).bind (·.dst) = some d
      · rw [if_pos hc, if_pos ⟨by rw [hD2 j (by omega)]; exact hc.1, hc.2⟩]
      · rw [if_neg hc, if_neg (fun e => hc ⟨by rw [← hD2 j (by omega)]; exact e.1, e.2⟩), ih]
    · subst heq
      by_cases ht : (ops[j]?).bind (·.dst) = some d
      · rw [if_pos ⟨hD1, ht⟩, if_pos ⟨by omega, ht⟩]
      · rw [if_neg (fun e => ht e.2), if_neg (fun e => ht e.2), ih, if_neg (fun e => absurd e.1 (by omega)), if_neg (fun e => by rw [hDi] at e; cases e.1)]
    · by_cases ht : (ops[i]?).bind (·.dst) = some d
      · rw [if_pos ⟨hgt, ht⟩] at ih
        rw [if_neg (fun e => hdis j (by omega) (by omega) d ht e.2), ih, if_pos ⟨by omega, ht⟩]
      · rw [if_neg (fun e => ht e.2)] at ih
        rw [if_neg (fun e => ht e.2 : ¬ (i < j + 1 ∧ (ops[i]?).bind (·.dst) = some d))]
        by_cases hc : D j = true ∧ (ops[j]?).bind (·.dst) = some d
        · rw [if_pos hc, if_pos ⟨by rw [hD2 j (by omega)]; exact hc.1, hc.2⟩]
        · rw [if_neg hc, if_neg (fun e => hc ⟨by rw [← hD2 j (by omega)]; exact e.1, e.2⟩), ih]
theorem td_none {t0 : T AV} (D : Nat → Bool) (h : ∀ j, D j = false) (d : Nat) : ∀ j, td ops t0 V D j d = getA t0 d
  | 0 => rfl
  | j + 1 => by simp only [td]; rw [if_neg (fun e => by rw [h j] at e; cases e.1)]; exact td_none D h d j
theorem td_all (tr : Trace E cf n ops ops S Tm V F) (D : Nat → Bool) (h : ∀ j, j < ops.length → D j = true) (d : Nat) : ∀ j, j ≤ ops.length → td ops (Tm 0) V D j d = getA (Tm j) d
  | 0, _ => rfl
  | j + 1, hj => by
    simp only [td]
    rw [getA_put tr (by omega)]
    by_cases ht : (ops[j]?).bind (·.dst) = some d
    · rw [if_pos ⟨h j (by omega), ht⟩, if_pos ht]
    · rw [if_neg (fun e => ht e.2), if_neg ht, td_all tr D h d j (by omega)]
end
end Go.Aex
