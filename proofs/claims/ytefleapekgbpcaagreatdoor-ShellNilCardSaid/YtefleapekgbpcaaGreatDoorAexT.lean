/- A region whose order is open: the plain side. -/
import Derived.Test.YtefleapekgbpcaaGreatDoorAexS
set_option linter.unusedVariables false
set_option linter.unusedSimpArgs false
namespace Go.Aex

/-! ### what comes ahead of what -/
theorem bindsA_eq (e : Edge) : Region.binds .any e = bindsA e := by
  unfold Region.binds bindsA
  cases e.ground <;> rfl
theorem before_spec : ∀ (l : List Oper) (done : List Ks), ∃ ext, before done l = done ++ ext ∧ ext.length = l.length ∧ ∀ (j : Nat) (o : Oper), l[j]? = some o → ext[j]? = some (predsOf (done ++ ext.take j) o.after.toList)
  | [], done => ⟨[], by simp [before], rfl, fun j o h => by simp at h⟩
  | o :: l, done => by
    obtain ⟨ext, h1, h2, h3⟩ := before_spec l (done ++ [predsOf done o.after.toList])
    refine ⟨predsOf done o.after.toList :: ext, by simp [before, Ks.strict_eq, h1], by simp [h2], fun j u hu => ?_⟩
    cases j with
    | zero => simp at hu; subst hu; simp
    | succ j => simpa using h3 j u (by simpa using hu)
theorem hasK_bits (k m : Nat) : (match Nat.beq (Nat.land (Nat.shiftRight m k) 1) 0 with | true => false | false => true) = true ↔ Nat.testBit m k = true := by
  have e : Nat.land (Nat.shiftRight m k) 1 = 1 &&& (m >>> k) := Nat.and_comm _ _
  rw [e]
  unfold Nat.testBit
  cases hb : Nat.beq (1 &&& (m >>> k)) 0 with
  | true =>
    have := Nat.eq_of_beq_eq_true hb
    simp [this]
  | false =>
    have : 1 &&& (m >>> k) ≠ 0 := fun e => by rw [e] at hb; cases hb
    exact ⟨fun _ => bne_iff_ne.2 this, fun _ => rfl⟩
theorem hasK_iff {k : Nat} {m : Ks} : hasK k m = true ↔ k ∈ m := hasK_bits k m
theorem predsOf_mem {done : List Ks} : ∀ {l : List Edge} {i : Nat}, i ∈ predsOf done l → ∃ e ∈ l, bindsA e = true ∧ (i = e.on ∨ ∃ p, done[e.on]? = some p ∧ i ∈ p)
  | [], i, h => absurd h Ks.not_mem_emp
  | e :: l, i, h => by
    simp only [predsOf] at h
    split at h
    · rename_i hb
      split at h
      · rename_i p hp
        rw [nth_eq] at hp
        rcases Ks.mem_uni.1 h with h | h
        · rcases Ks.mem_ins.1 h with rfl | h
          · exact ⟨e, List.mem_cons_self .., hb, .inl rfl⟩
          · exact ⟨e, List.mem_cons_self .., hb, .inr ⟨p, hp, h⟩⟩
        · obtain ⟨e', h1, h2⟩ := predsOf_mem h
          exact ⟨e', List.mem_cons_of_mem _ h1, h2⟩
      · rcases Ks.mem_ins.1 h with rfl | h
        · exact ⟨e, List.mem_cons_self .., hb, .inl rfl⟩
        · obtain ⟨e', h1, h2⟩ := predsOf_mem h
          exact ⟨e', List.mem_cons_of_mem _ h1, h2⟩
    · obtain ⟨e', h1, h2⟩ := predsOf_mem h
      exact ⟨e', List.mem_cons_of_mem _ h1, h2⟩
theorem backA_all {i : Nat} : ∀ {l : List Edge}, backA i l = true → ∀ e ∈ l, bindsA e = true → e.on < i
  | [], _, e, he => by cases he
  | e :: l, h, e', he' => by
    simp only [backA] at h
    intro hb
    split at h
    · cases h
    · rename_i hn
      rcases List.mem_cons.1 he' with rfl | he'
      · cases hlt : Nat.blt e'.on i with
        | true => exact blt_true hlt
        | false => exact absurd hlt (fun h2 => hn hb h2)
      · exact backA_all h e' he' hb
theorem backs_all : ∀ {l : List Oper} {k : Nat}, backs k l = true → ∀ (j : Nat) (o : Oper), l[j]? = some o → ∀ e ∈ o.after.toList, bindsA e = true → e.on < k + j
  | [], k, _, j, o, h => by simp at h
  | o :: l, k, h, j, u, hu => by
    simp only [backs] at h
    split at h
    · rename_i hb
      cases j with
      | zero => simp at hu; subst hu; simpa using backA_all hb
      | succ j =>
        have := backs_all h j u (by simpa using hu)
        intro e he hbe
        have := this e he hbe
        omega
    · cases h
/-- A set that holds what each of its operations waits for holds all that comes ahead of them. -/
theorem bef_closed {ops : List Oper} (hb : backs 0 ops = true) (D : Nat → Prop) (hD : ∀ (j : Nat) (o : Oper), ops[j]? = some o → D j → ∀ e ∈ o.after.toList, bindsA e = true → D e.on) :
    ∀ (j : Nat) (p : Ks), (before [] ops)[j]? = some p → D j → ∀ i ∈ p, D i := by
  obtain ⟨ext, h1, h2, h3⟩ := before_spec ops []
  simp only [List.nil_append] at h1 h3
  rw [h1]
  intro j
  induction j using Nat.strongRecOn with
  | _ j ih =>
    intro p hp hDj i hi
    have hlt : j < ops.length := by rw [← h2]; exact (List.getElem?_eq_some_iff.1 hp).1
    have ho : ops[j]? = some ops[j] := List.getElem?_eq_getElem hlt
    have := h3 j _ ho
    rw [hp] at this; cases this
    obtain ⟨e, he, hbe, hor⟩ := predsOf_mem hi
    have hDe := hD j _ ho hDj e he hbe
    have hlt2 := backs_all hb j _ ho e he hbe
    rcases hor with rfl | ⟨q, hq, hiq⟩
    · exact hDe
    · rw [List.getElem?_take] at hq
      split at hq
      · exact ih e.on (by omega) q hq hDe i hiq
      · cases hq
theorem bef_lt {ops : List Oper} (hb : backs 0 ops = true) : ∀ (j : Nat) (p : Ks), (before [] ops)[j]? = some p → ∀ i ∈ p, i < j := by
  obtain ⟨ext, h1, h2, h3⟩ := before_spec ops []
  simp only [List.nil_append] at h1 h3
  rw [h1]
  intro j
  induction j using Nat.strongRecOn with
  | _ j ih =>
    intro p hp i hi
    have hlt : j < ops.length := by rw [← h2]; exact (List.getElem?_eq_some_iff.1 hp).1
    have ho : ops[j]? = some ops[j] := List.getElem?_eq_getElem hlt
    have := h3 j _ ho
    rw [hp] at this; cases this
    obtain ⟨e, he, hbe, hor⟩ := predsOf_mem hi
    have hlt2 := backs_all hb j _ ho e he hbe
    rcases hor with rfl | ⟨q, hq, hiq⟩
    · omega
    · rw [List.getElem?_take] at hq
      split at hq
      · have := ih e.on (by omega) q hq i hiq; omega
      · cases hq
/-- What an operation waits for comes ahead of it. -/
theorem bef_direct {ops : List Oper} {j : Nat} {o : Oper} (ho : ops[j]? = some o) {e : Edge} (he : e ∈ o.after.toList) (hb : bindsA e = true) : ∃ p, (before [] ops)[j]? = some p ∧ e.on ∈ p := by
  obtain ⟨ext, h1, h2, h3⟩ := before_spec ops []
  simp only [List.nil_append] at h1 h3
  rw [h1]
  refine ⟨_, h3 j o ho, ?_⟩
  generalize ext.take j = done
  have key : ∀ (l : List Edge), e ∈ l → e.on ∈ predsOf done l := by
    intro l
    induction l with
    | nil => intro h; cases h
    | cons e' l ih =>
      intro h
      simp only [predsOf]
      rcases List.mem_cons.1 h with rfl | h
      · rw [hb]; simp only
        split
        · exact Ks.mem_uni_left Ks.mem_ins_self
        · exact Ks.mem_ins_self
      · split
        · split
          · exact Ks.mem_uni_right (ih h)
          · exact Ks.mem_ins_of (ih h)
        · exact ih h
  exact key _ he
theorem anyIn_false {a b : List Nat} (h : anyIn a b = false) : ∀ k ∈ a, k ∉ b := by
  induction a with
  | nil => intro k hk; cases hk
  | cons x a ih =>
    simp only [anyIn] at h
    split at h
    · cases h
    · rename_i hm
      intro k hk hkb
      rcases List.mem_cons.1 hk with rfl | hk
      · rw [(memN_iff _ _).2 hkb] at hm; cases hm
      · exact ih h k hk hkb
theorem anyK_bits {a b k : Nat} (h : Nat.beq (Nat.land a b) 0 = true) (ha : Nat.testBit a k = true) : ¬ Nat.testBit b k = true := by
  intro hb
  have e : a &&& b = 0 := Nat.eq_of_beq_eq_true h
  have : Nat.testBit (a &&& b) k = true := by rw [Nat.testBit_and, ha, hb]; rfl
  rw [e] at this; simp at this
theorem anyK_false {a b : Ks} (h : anyK a b = false) : ∀ k ∈ a, k ∉ b := by
  intro k ha hb
  unfold anyK at h
  split at h
  · rename_i e; exact anyK_bits e ha hb
  · cases h
theorem betweenK_bits {lo hi a k : Nat} (h : Nat.beq (Nat.land (Nat.shiftRight a lo) (Nat.sub (Nat.pow 2 (Nat.sub hi lo)) 1)) 0 = true) (ha : Nat.testBit a k = true) : ¬(lo ≤ k ∧ k < hi) := by
  rintro ⟨h1, h2⟩
  have e : (a >>> lo) &&& (2 ^ (hi - lo) - 1) = 0 := Nat.eq_of_beq_eq_true h
  have : Nat.testBit ((a >>> lo) &&& (2 ^ (hi - lo) - 1)) (k - lo) = true := by
    rw [Nat.testBit_and, Nat.testBit_shiftRight, Nat.testBit_two_pow_sub_one, show lo + (k - lo) = k by omega, ha]
    simp; omega
  rw [e] at this; simp at this
theorem betweenK_false {lo hi : Nat} {a : Ks} (h : betweenK lo hi a = false) : ∀ k ∈ a, ¬(lo ≤ k ∧ k < hi) := by
  intro k ha
  unfold betweenK at h
  split at h
  · rename_i e; exact betweenK_bits e ha
  · cases h
/-- Two steps that may come in either order. -/
structure Apart (a b : Foot) : Prop where
  ab : ∀ k ∈ a.wr, k ∉ b.rd
  ba : ∀ k ∈ b.wr, k ∉ a.rd
  na : ∀ k, a.lo ≤ k ∧ k < a.hi → k ∉ b.rd
  nb : ∀ k, b.lo ≤ k ∧ k < b.hi → k ∉ a.rd
theorem apartA_all {a b : Foot} (h : apartA a b = true) : Apart a b := by
  unfold apartA at h
  split at h
  · rename_i h1 h2 h3 h4
    refine ⟨anyK_false h1, anyK_false h2, fun k hk hb => ?_, fun k hk hb => ?_⟩
    · cases he : Nat.beq a.lo a.hi with
      | true => have := beq_true he; omega
      | false => rw [he] at h3; exact betweenK_false h3 k hb hk
    · cases he : Nat.beq b.lo b.hi with
      | true => have := beq_true he; omega
      | false => rw [he] at h4; exact betweenK_false h4 k hb hk
  · cases h
theorem anyIn_of {a b : List Nat} (h : ∀ k ∈ a, k ∉ b) : anyIn a b = false := by
  induction a with
  | nil => rfl
  | cons x a ih =>
    simp only [anyIn]
    cases hm : memN x b with
    | true => exact absurd ((memN_iff _ _).1 hm) (h x (List.mem_cons_self ..))
    | false => exact ih fun k hk => h k (List.mem_cons_of_mem _ hk)
theorem mem_opDst {o : Oper} {k : Nat} : k ∈ opDst o ↔ o.dst = some k := by
  unfold opDst
  cases o.dst with
  | none => exact ⟨fun h => absurd h Ks.not_mem_emp, fun h => by cases h⟩
  | some d =>
    refine ⟨fun h => ?_, fun h => ?_⟩
    · rcases Ks.mem_ins.1 h with rfl | h
      · rfl
      · exact absurd h Ks.not_mem_emp
    · cases h; exact Ks.mem_ins_self
theorem mem_insAll : ∀ {l : List Nat} {m : Ks} {k : Nat}, k ∈ insAll l m ↔ k ∈ l ∨ k ∈ m
  | [], m, k => by simp [insAll]
  | x :: l, m, k => by
    simp only [insAll, mem_insAll, Ks.mem_ins, List.mem_cons]
    constructor
    · rintro (h | h | h)
      · exact .inl (.inr h)
      · exact .inl (.inl h)
      · exact .inr h
    · rintro ((h | h) | h)
      · exact .inr (.inl h)
      · exact .inl h
      · exact .inr (.inr h)
def PairOk (p d l : Ks) (x : Nat × Ks × Ks) : Prop := (hasK x.1 p = true ∧ anyK x.2.1 d = false) ∨ (hasK x.1 p = false ∧ anyK x.2.1 d = false ∧ anyK x.2.1 l = false ∧ anyK d x.2.2 = false)
theorem tmpsAll_all {p d l : Ks} : ∀ {r : List (Nat × Ks × Ks)}, tmpsAll p d l r = true → ∀ x ∈ r, PairOk p d l x
  | [], _, x, hx => by cases hx
  | (i, di, li) :: r, h, x, hx => by
    simp only [tmpsAll] at h
    split at h
    · rename_i h1
      split at h
      · cases h
      · rename_i h2
        rcases List.mem_cons.1 hx with rfl | hx
        · exact .inl ⟨h1, h2⟩
        · exact tmpsAll_all h x hx
    · rename_i h1
      split at h
      · rename_i h2 h3 h4
        rcases List.mem_cons.1 hx with rfl | hx
        · exact .inr ⟨h1, h2, h3, h4⟩
        · exact tmpsAll_all h x hx
      · cases h
theorem tmpsFast_all {ops : List Oper} : ∀ {rest : List Oper} {bef : List Ks} {j : Nat} {prev : List (Nat × Ks × Ks)}, tmpsFast ops rest bef j prev = true → ∀ (k : Nat) (o : Oper), rest[k]? = some o → ∃ p, bef[k]? = some p ∧
    (∀ x ∈ prev, PairOk p (opDst o) (insAll (looks ops o) Ks.emp) x) ∧ ∀ (i : Nat) (u : Oper), i < k → rest[i]? = some u → PairOk p (opDst o) (insAll (looks ops o) Ks.emp) (j + i, opDst u, insAll (looks ops u) Ks.emp)
  | [], bef, j, prev, _, k, o, ho => by simp at ho
  | q :: os, bef, j, prev, h, k, o, ho => by
    simp only [tmpsFast] at h
    split at h
    · cases h
    · rename_i p bef
      simp only [Ks.strict_eq] at h
      split at h
      · rename_i h1
        cases k with
        | zero =>
          simp at ho; subst ho
          exact ⟨p, rfl, tmpsAll_all h1, fun i u hi => by omega⟩
        | succ k =>
          obtain ⟨p', hp', h2, h3⟩ := tmpsFast_all h k o (by simpa using ho)
          refine ⟨p', by simpa using hp', fun x hx => h2 x (List.mem_cons_of_mem _ hx), fun i u hi hu => ?_⟩
          cases i with
          | zero => simp at hu; subst hu; exact h2 _ (List.mem_cons_self ..)
          | succ i =>
            have := h3 i u (by omega) (by simpa using hu)
            rwa [show j + 1 + i = j + (i + 1) by omega] at this
      · cases h
theorem tmpsFast_apart {ops : List Oper} (h : tmpsFast ops ops (before [] ops) 0 [] = true) {j i : Nat} (hj : j < ops.length) (hi : i < j) : tmpsApart ops (before [] ops) j i = true := by
  obtain ⟨p, hp, _, h3⟩ := tmpsFast_all h j ops[j] (List.getElem?_eq_getElem hj)
  have := h3 i ops[i] hi (List.getElem?_eq_getElem (by omega))
  rw [Nat.zero_add] at this
  have hoj : ops[j]? = some ops[j] := List.getElem?_eq_getElem hj
  have hoi : ops[i]? = some ops[i] := List.getElem?_eq_getElem (by omega)
  have hord : orderedA (before [] ops) i j = hasK i p := by unfold orderedA; rw [nth_eq, hp]
  have dm : ∀ (x : Nat) (o : Oper), ops[x]? = some o → ∀ k ∈ dstOf ops x, k ∈ opDst o := fun x o ho k hk => by
    unfold dstOf at hk
    rw [nth_eq, ho] at hk
    simp only at hk
    rw [mem_opDst]
    cases hd : o.dst with
    | none => rw [hd] at hk; cases hk
    | some d => rw [hd] at hk; rw [List.mem_singleton.1 hk]
  have lm : ∀ (x : Nat) (o : Oper), ops[x]? = some o → ∀ k ∈ looksAt ops x, k ∈ insAll (looks ops o) Ks.emp := fun x o ho k hk => by
    unfold looksAt at hk
    rw [nth_eq, ho] at hk
    exact mem_insAll.2 (.inl hk)
  have dis : ∀ {a b : List Nat} {u v : Ks}, (∀ k ∈ a, k ∈ u) → (∀ k ∈ b, k ∈ v) → anyK u v = false → anyIn a b = false := fun ha hb h => anyIn_of fun k hk hk' => anyK_false h k (ha k hk) (hb k hk')
  unfold tmpsApart
  rw [hord]
  rcases this with ⟨e1, e2⟩ | ⟨e1, e2, e3, e4⟩
  · rw [e1]; simp only
    rw [dis (dm i _ hoi) (dm j _ hoj) e2]
  · rw [e1]; simp only
    rw [dis (dm i _ hoi) (dm j _ hoj) e2, dis (dm i _ hoi) (lm j _ hoj) e3, dis (dm j _ hoj) (lm i _ hoi) e4]
theorem emptyF_apart {a f : Foot} (h : emptyF f = true) : Apart a f ∧ Apart f a := by
  unfold emptyF at h
  split at h
  · rename_i h1 h2 h3
    have n1 : ∀ k, k ∉ f.rd := fun k hk => by
      have e : f.rd = Ks.emp := Nat.eq_of_beq_eq_true h1
      rw [e] at hk; exact Ks.not_mem_emp hk
    have n2 : ∀ k, k ∉ f.wr := fun k hk => by
      have e : f.wr = Ks.emp := Nat.eq_of_beq_eq_true h2
      rw [e] at hk; exact Ks.not_mem_emp hk
    have n3 : f.lo = f.hi := Nat.eq_of_beq_eq_true h3
    exact ⟨⟨fun k _ => n1 k, fun k hk => absurd hk (n2 k), fun k _ => n1 k, fun k hk => by omega⟩, ⟨fun k hk => absurd hk (n2 k), fun k _ => n1 k, fun k hk => by omega, fun k _ => n1 k⟩⟩
  · cases h
theorem apartAll_all {p : Ks} {f : Foot} : ∀ {l : List (Nat × Foot)}, apartAll p f l = true → ∀ x ∈ l, hasK x.1 p = true ∨ Apart x.2 f
  | [], _, x, hx => by cases hx
  | (i, a) :: l, h, x, hx => by
    simp only [apartAll] at h
    split at h
    · rename_i h1
      rcases List.mem_cons.1 hx with rfl | hx
      · exact .inl h1
      · exact apartAll_all h x hx
    · split at h
      · rename_i h2
        rcases List.mem_cons.1 hx with rfl | hx
        · exact .inr (apartA_all h2)
        · exact apartAll_all h x hx
      · cases h
theorem feetOk_all : ∀ {fs : List Foot} {bef : List Ks} {j : Nat} {prev : List (Nat × Foot)}, feetOk fs bef j prev = true → ∀ (k : Nat) (f : Foot), fs[k]? = some f → ∃ p, bef[k]? = some p ∧
    (∀ x ∈ prev, hasK x.1 p = true ∨ Apart x.2 f) ∧ ∀ (i : Nat) (g : Foot), i < k → fs[i]? = some g → hasK (j + i) p = true ∨ Apart g f
  | [], bef, j, prev, _, k, o, ho => by simp at ho
  | q :: fs, bef, j, prev, h, k, f, hf => by
    simp only [feetOk] at h
    split at h
    · cases h
    · rename_i p bef
      split at h
      · rename_i he
        cases k with
        | zero =>
          simp at hf; subst hf
          exact ⟨p, rfl, fun x hx => .inr (emptyF_apart he).1, fun i u hi => by omega⟩
        | succ k =>
          obtain ⟨p', hp', h2, h3⟩ := feetOk_all h k f (by simpa using hf)
          refine ⟨p', by simpa using hp', h2, fun i u hi hu => ?_⟩
          cases i with
          | zero => simp at hu; subst hu; exact .inr (emptyF_apart he).2
          | succ i =>
            have := h3 i u (by omega) (by simpa using hu)
            rwa [show j + 1 + i = j + (i + 1) by omega] at this
      · split at h
        · rename_i h1
          cases k with
          | zero =>
            simp at hf; subst hf
            exact ⟨p, rfl, apartAll_all h1, fun i u hi => by omega⟩
          | succ k =>
            obtain ⟨p', hp', h2, h3⟩ := feetOk_all h k f (by simpa using hf)
            refine ⟨p', by simpa using hp', fun x hx => h2 x (List.mem_cons_of_mem _ hx), fun i u hi hu => ?_⟩
            cases i with
            | zero => simp at hu; subst hu; exact h2 _ (List.mem_cons_self ..)
            | succ i =>
              have := h3 i u (by omega) (by simpa using hu)
              rwa [show j + 1 + i = j + (i + 1) by omega] at this
        · cases h

/-! ### an operation looks at its temporaries alone -/
theorem evs_congr {t t' : T AV} : ∀ (l : List Operand), (∀ d ∈ tmpsOf l, getA t d = getA t' d) → evs t l = evs t' l
  | [], _ => rfl
  | x :: l, h => by
    simp only [evs]
    rw [evs_congr l (fun d hd => h d (by simp [tmpsOf, hd]))]
    congr 1
    cases x with
    | tmp i => exact h i (by simp [tmpsOf, tmpOf])
    | _ => rfl
theorem ev_congr {t t' : T AV} {x : Operand} (h : ∀ d ∈ tmpOf x, getA t d = getA t' d) : ev t x = ev t' x := by
  cases x with
  | tmp i => exact h i (by simp [tmpOf])
  | _ => rfl
theorem mem_tmpsOf {l : List Operand} {x : Operand} (hx : x ∈ l) {d : Nat} (hd : d ∈ tmpOf x) : d ∈ tmpsOf l := by
  induction l with
  | nil => cases hx
  | cons y l ih =>
    simp only [tmpsOf, List.mem_append]
    rcases List.mem_cons.1 hx with rfl | hx
    · exact .inl hd
    · exact .inr (ih hx)
theorem parts_congr {t t' : T AV} : ∀ (l : List (Nat × Operand)), (∀ q ∈ l, ev t q.2 = ev t' q.2) → partsA t l = partsA t' l
  | [], _ => rfl
  | (i, x) :: l, h => by
    simp only [partsA]
    rw [h (i, x) (List.mem_cons_self ..), parts_congr l (fun q hq => h q (List.mem_cons_of_mem _ hq))]
theorem evs_congr' {t t' : T AV} : ∀ (l : List Operand), (∀ x ∈ l, ev t x = ev t' x) → evs t l = evs t' l
  | [], _ => rfl
  | x :: l, h => by simp only [evs]; rw [h x (List.mem_cons_self ..), evs_congr' l (fun y hy => h y (List.mem_cons_of_mem _ hy))]
theorem opt_congr {t t' : T AV} {x : Option Operand} (h : ∀ y ∈ x, ev t y = ev t' y) : optEv t x = optEv t' x := by
  cases x with
  | none => rfl
  | some y => simp only [optEv]; rw [h y rfl]
theorem opA_congr {E : Env} {cf : Bool → Nat → List AV → M AV} {t t' : T AV} {op : Op} (h : ∀ d ∈ tmpsOf op.operands.toList, getA t d = getA t' d) : opA E cf t op = opA E cf t' op := by
  have he : ∀ x ∈ op.operands.toList, ev t x = ev t' x := fun x hx => ev_congr fun d hd => h d (mem_tmpsOf hx hd)
  cases op
  case move x => simp only [opA]; rw [he x (by simp [Op.operands])]
  case assign x => simp only [opA]; rw [he x (by simp [Op.operands])]
  case pick c a b => simp only [opA]; rw [he c (by simp [Op.operands]), he a (by simp [Op.operands]), he b (by simp [Op.operands])]
  case box el x => simp only [opA]; rw [he x (by simp [Op.operands])]
  case build ty ps =>
    simp only [opA]
    rw [parts_congr ps.toList (fun q hq => he q.2 (by simp [Op.operands]; exact ⟨q.1, by simpa using hq⟩))]
  case buildSlice ty n ps =>
    simp only [opA]
    rw [parts_congr ps.toList (fun q hq => he q.2 (by simp [Op.operands]; exact ⟨q.1, by simpa using hq⟩))]
  case load ty x => simp only [opA]; rw [he x (by simp [Op.operands])]
  case store ty x y => simp only [opA]; rw [he x (by simp [Op.operands]), he y (by simp [Op.operands])]
  case nilCheck x => simp only [opA]; rw [he x (by simp [Op.operands])]
  case binOp o ty x y ty2 => simp only [opA]; rw [he x (by simp [Op.operands]), he y (by simp [Op.operands])]
  case unOp o ty x => simp only [opA]; rw [he x (by simp [Op.operands])]
  case convert a b x => simp only [opA]; rw [he x (by simp [Op.operands])]
  case makeFunc f x y =>
    simp only [opA]
    rw [evs_congr' x.toList (fun z hz => he z (by simp [Op.operands]; exact .inl (by simpa using hz))), evs_congr' y.toList (fun z hz => he z (by simp [Op.operands]; exact .inr (by simpa using hz)))]
  case makeMap ty r => cases r <;> rfl
  case makeChan ty x => simp only [opA]; rw [he x (by simp [Op.operands])]
  case makeSlice ty x y => simp only [opA]; rw [he x (by simp [Op.operands]), he y (by simp [Op.operands])]
  case slice ty x lo hi mx =>
    simp only [opA]
    rw [he x (by simp [Op.operands]), opt_congr (x := lo) (fun y hy => he y (by cases hy; simp [Op.operands])), opt_congr (x := hi) (fun y hy => he y (by cases hy; simp [Op.operands])), opt_congr (x := mx) (fun y hy => he y (by cases hy; simp [Op.operands]))]
  case fieldAddr ty x f => simp only [opA]; rw [he x (by simp [Op.operands])]
  case field ty x f => simp only [opA]; rw [he x (by simp [Op.operands])]
  case indexAddr ty x y => simp only [opA]; rw [he x (by simp [Op.operands]), he y (by simp [Op.operands])]
  case index ty x y => simp only [opA]; rw [he x (by simp [Op.operands]), he y (by simp [Op.operands])]
  case lookup ty x y ok => simp only [opA]; rw [he x (by simp [Op.operands]), he y (by simp [Op.operands])]
  case mapUpdate ty x y z => simp only [opA]; rw [he x (by simp [Op.operands]), he y (by simp [Op.operands]), he z (by simp [Op.operands])]
  case insert ty x y z => simp only [opA]; rw [he x (by simp [Op.operands]), he y (by simp [Op.operands]), he z (by simp [Op.operands])]
  case extract x i => simp only [opA]; rw [he x (by simp [Op.operands])]
  case sliceToArrayPointer ty x => simp only [opA]; rw [he x (by simp [Op.operands])]
  case call c =>
    have ha : evs t c.args.toList = evs t' c.args.toList := evs_congr' _ (fun z hz => he z (by simp [Op.operands, Call.operands]; exact .inr (by simpa using hz)))
    simp only [opA, ha]
    cases hc : c.callee with
    | builtin bb => rfl
    | value f =>
      simp only
      rw [he f (by simp [Op.operands, Call.operands, hc])]
    | invoke r m => rfl
  case select cs bl =>
    simp only [opA]
    unfold selectA
    split
    · rename_i c hc
      have hm0 : c ∈ cs.toList := by rw [hc]; simp
      have hm : c ∈ cs := by simpa using hm0
      have h1 : ev t c.chan = ev t' c.chan := he _ (by simp [Op.operands]; exact ⟨c, hm, .inl rfl⟩)
      rw [h1]
      cases hs : c.send with
      | none => cases ev t' c.chan <;> rfl
      | some x =>
        have h2 : ev t x = ev t' x := he _ (by simp [Op.operands]; exact ⟨c, hm, .inr hs⟩)
        cases ev t' c.chan <;> simp only [h2]
    · rfl
  all_goals rfl
theorem stepA_congr {E : Env} {cf : Bool → Nat → List AV → M AV} {ops : List Oper} {t t' : T AV} {o : Oper} (h : ∀ d ∈ looks ops o, getA t d = getA t' d) : stepA E cf ops t o = stepA E cf ops t' o := by
  have h1 : opA E cf t o.op = opA E cf t' o.op := opA_congr fun d hd => h d (List.mem_append_left _ hd)
  have h2 : wantedA ops t o = wantedA ops t' o := by
    unfold wantedA
    cases hg : o.guard with
    | none => rfl
    | some jw =>
      obtain ⟨j, want⟩ := jw
      simp only
      cases hj : nth ops j with
      | none => rfl
      | some oj =>
        simp only
        cases hd : oj.dst with
        | none => rfl
        | some d =>
          simp only
          rw [h d (by simp [looks, hg, hj, hd])]
  unfold stepA
  rw [h1, h2]
end Go.Aex
