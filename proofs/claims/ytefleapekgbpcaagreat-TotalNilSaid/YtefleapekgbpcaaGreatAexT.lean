/- A region whose order is open: the plain side. -/
import Derived.Test.YtefleapekgbpcaaGreatAexS
set_option linter.unusedVariables false
set_option linter.unusedSimpArgs false
namespace Go.Aex

/-! ### what comes ahead of what -/
theorem bindsA_eq (e : Edge) : Region.binds .any e = bindsA e := by
  unfold Region.binds bindsA
  cases e.ground <;> rfl
theorem before_spec : ∀ (l : List Oper) (done : List (List Nat)), ∃ ext, before done l = done ++ ext ∧ ext.length = l.length ∧ ∀ (j : Nat) (o : Oper), l[j]? = some o → ext[j]? = some (predsOf (done ++ ext.take j) o.after.toList)
  | [], done => ⟨[], by simp [before], rfl, fun j o h => by simp at h⟩
  | o :: l, done => by
    obtain ⟨ext, h1, h2, h3⟩ := before_spec l (done ++ [predsOf done o.after.toList])
    refine ⟨predsOf done o.after.toList :: ext, by simp [before, h1], by simp [h2], fun j u hu => ?_⟩
    cases j with
    | zero => simp at hu; subst hu; simp
    | succ j => simpa using h3 j u (by simpa using hu)
theorem predsOf_mem {done : List (List Nat)} : ∀ {l : List Edge} {i : Nat}, i ∈ predsOf done l → ∃ e ∈ l, bindsA e = true ∧ (i = e.on ∨ ∃ p, done[e.on]? = some p ∧ i ∈ p)
  | [], i, h => by simp [predsOf] at h
  | e :: l, i, h => by
    simp only [predsOf] at h
    split at h
    · rename_i hb
      split at h
      · rename_i p hp
        rw [nth_eq] at hp
        rcases List.mem_cons.1 h with rfl | h
        · exact ⟨e, List.mem_cons_self .., hb, .inl rfl⟩
        · rcases List.mem_append.1 h with h | h
          · exact ⟨e, List.mem_cons_self .., hb, .inr ⟨p, hp, h⟩⟩
          · obtain ⟨e', h1, h2⟩ := predsOf_mem h
            exact ⟨e', List.mem_cons_of_mem _ h1, h2⟩
      · rcases List.mem_cons.1 h with rfl | h
        · exact ⟨e, List.mem_cons_self .., hb, .inl rfl⟩
        · obtain ⟨e', h1, h2⟩ := predsOf_mem h
          exact ⟨e', List.mem_cons_of_mem _ h1, h2⟩
    · obtain ⟨e', h1, h2⟩ := predsOf_mem h
      exact ⟨e', List.mem_cons_of_mem _ h1, h2⟩
theorem backA_all {i : Nat} : ∀ {l : List Edge}, backA i l = true → ∀ e ∈ l, bindsA e = true → e.on < i
  | [], _, e, he => by cases he
  | e :: l, h, e', he' => by
    simp only [backA] at h
    intro hb
    split at h
    · cases h
    · rename_i hn
      rcases List.mem_cons.1 he' with rfl | he'
      · cases hlt : Nat.blt e'.on i with
        | true => exact blt_true hlt
        | false => exact absurd hlt (fun h2 => hn hb h2)
      · exact backA_all h e' he' hb
theorem backs_all : ∀ {l : List Oper} {k : Nat}, backs k l = true → ∀ (j : Nat) (o : Oper), l[j]? = some o → ∀ e ∈ o.after.toList, bindsA e = true → e.on < k + j
  | [], k, _, j, o, h => by simp at h
  | o :: l, k, h, j, u, hu => by
    simp only [backs] at h
    split at h
    · rename_i hb
      cases j with
      | zero => simp at hu; subst hu; simpa using backA_all hb
      | succ j =>
        have := backs_all h j u (by simpa using hu)
        intro e he hbe
        have := this e he hbe
        omega
    · cases h
/-- A set that holds what each of its operations waits for holds all that comes ahead of them. -/
theorem bef_closed {ops : List Oper} (hb : backs 0 ops = true) (D : Nat → Prop) (hD : ∀ (j : Nat) (o : Oper), ops[j]? = some o → D j → ∀ e ∈ o.after.toList, bindsA e = true → D e.on) :
    ∀ (j : Nat) (p : List Nat), (before [] ops)[j]? = some p → D j → ∀ i ∈ p, D i := by
  obtain ⟨ext, h1, h2, h3⟩ := before_spec ops []
  simp only [List.nil_append] at h1 h3
  rw [h1]
  intro j
  induction j using Nat.strongRecOn with
  | _ j ih =>
    intro p hp hDj i hi
    have hlt : j < ops.length := by rw [← h2]; exact (List.getElem?_eq_some_iff.1 hp).1
    have ho : ops[j]? = some ops[j] := List.getElem?_eq_getElem hlt
    have := h3 j _ ho
    rw [hp] at this; cases this
    obtain ⟨e, he, hbe, hor⟩ := predsOf_mem hi
    have hDe := hD j _ ho hDj e he hbe
    have hlt2 := backs_all hb j _ ho e he hbe
    rcases hor with rfl | ⟨q, hq, hiq⟩
    · exact hDe
    · rw [List.getElem?_take] at hq
      split at hq
      · exact ih e.on (by omega) q hq hDe i hiq
      · cases hq
theorem bef_lt {ops : List Oper} (hb : backs 0 ops = true) : ∀ (j : Nat) (p : List Nat), (before [] ops)[j]? = some p → ∀ i ∈ p, i < j := by
  obtain ⟨ext, h1, h2, h3⟩ := before_spec ops []
  simp only [List.nil_append] at h1 h3
  rw [h1]
  intro j
  induction j using Nat.strongRecOn with
  | _ j ih =>
    intro p hp i hi
    have hlt : j < ops.length := by rw [← h2]; exact (List.getElem?_eq_some_iff.1 hp).1
    have ho : ops[j]? = some ops[j] := List.getElem?_eq_getElem hlt
    have := h3 j _ ho
    rw [hp] at this; cases this
    obtain ⟨e, he, hbe, hor⟩ := predsOf_mem hi
    have hlt2 := backs_all hb j _ ho e he hbe
    rcases hor with rfl | ⟨q, hq, hiq⟩
    · omega
    · rw [List.getElem?_take] at hq
      split at hq
      · have := ih e.on (by omega) q hq i hiq; omega
      · cases hq
/-- What an operation waits for comes ahead of it. -/
theorem bef_direct {ops : List Oper} {j : Nat} {o : Oper} (ho : ops[j]? = some o) {e : Edge} (he : e ∈ o.after.toList) (hb : bindsA e = true) : ∃ p, (before [] ops)[j]? = some p ∧ e.on ∈ p := by
  obtain ⟨ext, h1, h2, h3⟩ := before_spec ops []
  simp only [List.nil_append] at h1 h3
  rw [h1]
  refine ⟨_, h3 j o ho, ?_⟩
  generalize ext.take j = done
  have key : ∀ (l : List Edge), e ∈ l → e.on ∈ predsOf done l := by
    intro l
    induction l with
    | nil => intro h; cases h
    | cons e' l ih =>
      intro h
      simp only [predsOf]
      rcases List.mem_cons.1 h with rfl | h
      · rw [hb]; simp only
        split <;> exact List.mem_cons_self ..
      · split
        · split
          · exact List.mem_cons_of_mem _ (List.mem_append_right _ (ih h))
          · exact List.mem_cons_of_mem _ (ih h)
        · exact ih h
  exact key _ he
theorem pairsOk_all {p : Nat → Nat → Bool} {i : Nat} : ∀ {j : Nat}, pairsOk p i j = true → ∀ k, k < j → p i k = true
  | 0, _, k, hk => by omega
  | j + 1, h, k, hk => by
    simp only [pairsOk] at h
    split at h
    · rename_i hp
      by_cases e : k = j
      · subst e; exact hp
      · exact pairsOk_all h k (by omega)
    · cases h
theorem allPairs_all {p : Nat → Nat → Bool} : ∀ {n : Nat}, allPairs p n = true → ∀ j i, j < n → i < j → p j i = true
  | 0, _, j, i, hj, hi => by omega
  | n + 1, h, j, i, hj, hi => by
    simp only [allPairs] at h
    split at h
    · rename_i hp
      by_cases e : j = n
      · subst e; exact pairsOk_all hp i hi
      · exact allPairs_all h j i (by omega) hi
    · cases h
theorem anyIn_false {a b : List Nat} (h : anyIn a b = false) : ∀ k ∈ a, k ∉ b := by
  induction a with
  | nil => intro k hk; cases hk
  | cons x a ih =>
    simp only [anyIn] at h
    split at h
    · cases h
    · rename_i hm
      intro k hk hkb
      rcases List.mem_cons.1 hk with rfl | hk
      · rw [(memN_iff _ _).2 hkb] at hm; cases hm
      · exact ih h k hk hkb
theorem anyBetween_false {lo hi : Nat} {a : List Nat} (h : anyBetween lo hi a = false) : ∀ k ∈ a, ¬(lo ≤ k ∧ k < hi) := by
  induction a with
  | nil => intro k hk; cases hk
  | cons x a ih =>
    simp only [anyBetween] at h
    intro k hk hkb
    rcases List.mem_cons.1 hk with rfl | hk
    · rw [Nat.ble_eq_true_of_le hkb.1] at h
      simp only at h
      rw [show Nat.blt k hi = true from Nat.ble_eq_true_of_le hkb.2] at h
      cases h
    · refine ih ?_ k hk hkb
      split at h
      · split at h
        · cases h
        · exact h
      · exact h
/-- Two steps that may come in either order. -/
structure Apart (a b : Foot) : Prop where
  ab : ∀ k ∈ a.wr, k ∉ b.rd
  ba : ∀ k ∈ b.wr, k ∉ a.rd
  na : ∀ k, a.lo ≤ k ∧ k < a.hi → k ∉ b.rd
  nb : ∀ k, b.lo ≤ k ∧ k < b.hi → k ∉ a.rd
theorem apartA_all {a b : Foot} (h : apartA a b = true) : Apart a b := by
  unfold apartA at h
  split at h
  · rename_i h1 h2 h3 h4
    refine ⟨anyIn_false h1, anyIn_false h2, fun k hk hb => ?_, fun k hk hb => ?_⟩
    · cases he : Nat.beq a.lo a.hi with
      | true => have := beq_true he; omega
      | false => rw [he] at h3; exact anyBetween_false h3 k hb hk
    · cases he : Nat.beq b.lo b.hi with
      | true => have := beq_true he; omega
      | false => rw [he] at h4; exact anyBetween_false h4 k hb hk
  · cases h
/-! ### an operation looks at its temporaries alone -/
theorem evs_congr {t t' : T AV} : ∀ (l : List Operand), (∀ d ∈ tmpsOf l, getA t d = getA t' d) → evs t l = evs t' l
  | [], _ => rfl
  | x :: l, h => by
    simp only [evs]
    rw [evs_congr l (fun d hd => h d (by simp [tmpsOf, hd]))]
    congr 1
    cases x with
    | tmp i => exact h i (by simp [tmpsOf, tmpOf])
    | _ => rfl
theorem ev_congr {t t' : T AV} {x : Operand} (h : ∀ d ∈ tmpOf x, getA t d = getA t' d) : ev t x = ev t' x := by
  cases x with
  | tmp i => exact h i (by simp [tmpOf])
  | _ => rfl
theorem mem_tmpsOf {l : List Operand} {x : Operand} (hx : x ∈ l) {d : Nat} (hd : d ∈ tmpOf x) : d ∈ tmpsOf l := by
  induction l with
  | nil => cases hx
  | cons y l ih =>
    simp only [tmpsOf, List.mem_append]
    rcases List.mem_cons.1 hx with rfl | hx
    · exact .inl hd
    · exact .inr (ih hx)
theorem parts_congr {t t' : T AV} : ∀ (l : List (Nat × Operand)), (∀ q ∈ l, ev t q.2 = ev t' q.2) → partsA t l = partsA t' l
  | [], _ => rfl
  | (i, x) :: l, h => by
    simp only [partsA]
    rw [h (i, x) (List.mem_cons_self ..), parts_congr l (fun q hq => h q (List.mem_cons_of_mem _ hq))]
theorem evs_congr' {t t' : T AV} : ∀ (l : List Operand), (∀ x ∈ l, ev t x = ev t' x) → evs t l = evs t' l
  | [], _ => rfl
  | x :: l, h => by simp only [evs]; rw [h x (List.mem_cons_self ..), evs_congr' l (fun y hy => h y (List.mem_cons_of_mem _ hy))]
theorem opt_congr {t t' : T AV} {x : Option Operand} (h : ∀ y ∈ x, ev t y = ev t' y) : optEv t x = optEv t' x := by
  cases x with
  | none => rfl
  | some y => simp only [optEv]; rw [h y rfl]
theorem opA_congr {E : Env} {cf : Bool → Nat → List AV → M AV} {t t' : T AV} {op : Op} (h : ∀ d ∈ tmpsOf op.operands.toList, getA t d = getA t' d) : opA E cf t op = opA E cf t' op := by
  have he : ∀ x ∈ op.operands.toList, ev t x = ev t' x := fun x hx => ev_congr fun d hd => h d (mem_tmpsOf hx hd)
  cases op
  case move x => simp only [opA]; rw [he x (by simp [Op.operands])]
  case assign x => simp only [opA]; rw [he x (by simp [Op.operands])]
  case pick c a b => simp only [opA]; rw [he c (by simp [Op.operands]), he a (by simp [Op.operands]), he b (by simp [Op.operands])]
  case box el x => simp only [opA]; rw [he x (by simp [Op.operands])]
  case build ty ps =>
    simp only [opA]
    rw [parts_congr ps.toList (fun q hq => he q.2 (by simp [Op.operands]; exact ⟨q.1, by simpa using hq⟩))]
  case buildSlice ty n ps =>
    simp only [opA]
    rw [parts_congr ps.toList (fun q hq => he q.2 (by simp [Op.operands]; exact ⟨q.1, by simpa using hq⟩))]
  case load ty x => simp only [opA]; rw [he x (by simp [Op.operands])]
  case store ty x y => simp only [opA]; rw [he x (by simp [Op.operands]), he y (by simp [Op.operands])]
  case nilCheck x => simp only [opA]; rw [he x (by simp [Op.operands])]
  case binOp o ty x y ty2 => simp only [opA]; rw [he x (by simp [Op.operands]), he y (by simp [Op.operands])]
  case unOp o ty x => simp only [opA]; rw [he x (by simp [Op.operands])]
  case convert a b x => simp only [opA]; rw [he x (by simp [Op.operands])]
  case makeFunc f x y =>
    simp only [opA]
    rw [evs_congr' x.toList (fun z hz => he z (by simp [Op.operands]; exact .inl (by simpa using hz))), evs_congr' y.toList (fun z hz => he z (by simp [Op.operands]; exact .inr (by simpa using hz)))]
  case makeMap ty r => cases r <;> rfl
  case makeChan ty x => simp only [opA]; rw [he x (by simp [Op.operands])]
  case makeSlice ty x y => simp only [opA]; rw [he x (by simp [Op.operands]), he y (by simp [Op.operands])]
  case slice ty x lo hi mx =>
    simp only [opA]
    rw [he x (by simp [Op.operands]), opt_congr (x := lo) (fun y hy => he y (by cases hy; simp [Op.operands])), opt_congr (x := hi) (fun y hy => he y (by cases hy; simp [Op.operands])), opt_congr (x := mx) (fun y hy => he y (by cases hy; simp [Op.operands]))]
  case fieldAddr ty x f => simp only [opA]; rw [he x (by simp [Op.operands])]
  case field ty x f => simp only [opA]; rw [he x (by simp [Op.operands])]
  case indexAddr ty x y => simp only [opA]; rw [he x (by simp [Op.operands]), he y (by simp [Op.operands])]
  case index ty x y => simp only [opA]; rw [he x (by simp [Op.operands]), he y (by simp [Op.operands])]
  case lookup ty x y ok => simp only [opA]; rw [he x (by simp [Op.operands]), he y (by simp [Op.operands])]
  case mapUpdate ty x y z => simp only [opA]; rw [he x (by simp [Op.operands]), he y (by simp [Op.operands]), he z (by simp [Op.operands])]
  case insert ty x y z => simp only [opA]; rw [he x (by simp [Op.operands]), he y (by simp [Op.operands]), he z (by simp [Op.operands])]
  case extract x i => simp only [opA]; rw [he x (by simp [Op.operands])]
  case call c =>
    have ha : evs t c.args.toList = evs t' c.args.toList := evs_congr' _ (fun z hz => he z (by simp [Op.operands, Call.operands]; exact .inr (by simpa using hz)))
    simp only [opA, ha]
    cases hc : c.callee with
    | builtin bb => rfl
    | value f =>
      simp only
      rw [he f (by simp [Op.operands, Call.operands, hc])]
    | invoke r m => rfl
  case select cs bl =>
    simp only [opA]
    unfold selectA
    split
    · rename_i c hc
      have hm0 : c ∈ cs.toList := by rw [hc]; simp
      have hm : c ∈ cs := by simpa using hm0
      have h1 : ev t c.chan = ev t' c.chan := he _ (by simp [Op.operands]; exact ⟨c, hm, .inl rfl⟩)
      rw [h1]
      cases hs : c.send with
      | none => cases ev t' c.chan <;> rfl
      | some x =>
        have h2 : ev t x = ev t' x := he _ (by simp [Op.operands]; exact ⟨c, hm, .inr hs⟩)
        cases ev t' c.chan <;> simp only [h2]
    · rfl
  all_goals rfl
theorem stepA_congr {E : Env} {cf : Bool → Nat → List AV → M AV} {ops : List Oper} {t t' : T AV} {o : Oper} (h : ∀ d ∈ looks ops o, getA t d = getA t' d) : stepA E cf ops t o = stepA E cf ops t' o := by
  have h1 : opA E cf t o.op = opA E cf t' o.op := opA_congr fun d hd => h d (List.mem_append_left _ hd)
  have h2 : wantedA ops t o = wantedA ops t' o := by
    unfold wantedA
    cases hg : o.guard with
    | none => rfl
    | some jw =>
      obtain ⟨j, want⟩ := jw
      simp only
      cases hj : nth ops j with
      | none => rfl
      | some oj =>
        simp only
        cases hd : oj.dst with
        | none => rfl
        | some d =>
          simp only
          rw [h d (by simp [looks, hg, hj, hd])]
  unfold stepA
  rw [h1, h2]
end Go.Aex
