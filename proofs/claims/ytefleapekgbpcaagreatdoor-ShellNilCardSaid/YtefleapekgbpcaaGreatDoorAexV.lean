/- A region whose order is open: the machine's side. -/
import Derived.Test.YtefleapekgbpcaaGreatDoorAexU
set_option linter.unusedVariables false
set_option linter.unusedSimpArgs false
namespace Go.Aex
open Go.RowKit Go.Conc
section
variable {E : Env} {P : Program} {B : Nat} {w0 : World} {cf : Bool → Nat → List AV → M AV} {n : Nat} {ops : Array Oper} {S : Nat → St} {Tm : Nat → T AV} {V : Nat → AV} {F : Nat → Foot} {b : Frame} {k : List Item} {cs : List Frame}
def listedD (listed : Array Bool) (i : Nat) : Bool := listed.getD i false
/-- What holds when some of the operations have been made. -/
structure At (E : Env) (P : Program) (B : Nat) (w0 : World) (n : Nat) (ops : Array Oper) (S : Nat → St) (Tm : Nat → T AV) (V : Nat → AV) (F : Nat → Foot) (ρ0 : Ren) (listed : Array Bool) (ρ : Ren) (a : Act) (w : World) : Prop where
  size : listed.size = ops.size
  closed : ∀ (j : Nat) (o : Oper), ops.toList[j]? = some o → listedD listed j = true → ∀ e ∈ o.after.toList, bindsA e = true → listedD listed e.on = true
  heap : ∃ h : T AObj, (∀ k, h.get k = hd S F (listedD listed) ops.size k) ∧ Rel B w0 ρ h.get w
  tmps : ∃ t : T AV, (∀ d, getA t d = td ops.toList (Tm 0) V (listedD listed) ops.size d) ∧ TRel ρ n t a.tmps
  names : ∀ i, i < ops.size → listedD listed i = false → ∀ k, (F i).lo ≤ k ∧ k < (F i).hi → ρ k = none
  le : Le ρ0 ρ
  old : ∀ k, ¬((S 0).nx ≤ k ∧ k < (S ops.size).nx) → ρ k = ρ0 k
/-- The checks that the executor has made of a region. -/
structure Checks (ops : Array Oper) (F : Nat → Foot) : Prop where
  back : backs 0 ops.toList = true
  tmps : ∀ j i, j < ops.size → i < j → tmpsApart ops.toList (before [] ops.toList) j i = true
  foots : ∀ j i, j < ops.size → i < j → orderedA (before [] ops.toList) i j = true ∨ Apart (F i) (F j)
theorem ordered_mem {ops : List Oper} {i j : Nat} (h : orderedA (before [] ops) i j = true) : ∃ p, (before [] ops)[j]? = some p ∧ i ∈ p := by
  unfold orderedA at h
  rw [nth_eq] at h
  split at h
  · cases h
  · rename_i p hp; exact ⟨p, hp, hasK_iff.1 h⟩
theorem mem_ordered {ops : List Oper} {i j : Nat} {p : Ks} (hp : (before [] ops)[j]? = some p) (hi : i ∈ p) : orderedA (before [] ops) i j = true := by
  unfold orderedA
  rw [nth_eq, hp]
  exact hasK_iff.2 hi
theorem dst_mem {ops : List Oper} {i d : Nat} (h : (ops[i]?).bind (·.dst) = some d) : d ∈ dstOf ops i := by
  unfold dstOf
  rw [nth_eq]
  cases ho : ops[i]? with
  | none => rw [ho] at h; cases h
  | some o => rw [ho] at h; simp only [Option.bind_some] at h; simp [h]
theorem Checks.dst (hc : Checks ops F) {i j d : Nat} (hi : i < ops.size) (hj : j < ops.size) (hne : j ≠ i) (h1 : (ops.toList[i]?).bind (·.dst) = some d) : (ops.toList[j]?).bind (·.dst) ≠ some d := by
  intro h2
  have key : ∀ x y, x < y → y < ops.size → ∀ d, (ops.toList[x]?).bind (·.dst) = some d → (ops.toList[y]?).bind (·.dst) = some d → False := by
    intro x y hxy hy d h1 h2
    have := hc.tmps y x hy hxy
    unfold tmpsApart at this
    split at this
    · split at this
      · cases this
      · rename_i hn; exact anyIn_false hn d (dst_mem h1) (dst_mem h2)
    · split at this
      · rename_i hn _ _; exact anyIn_false hn d (dst_mem h1) (dst_mem h2)
      · cases this
  rcases Nat.lt_or_ge i j with h | h
  · exact key i j h hj d h1 h2
  · exact key j i (by omega) hi d h2 h1
theorem Checks.look (hc : Checks ops F) {i j d : Nat} (hi : i < ops.size) (hj : j < ops.size) (hne : j ≠ i) (h1 : orderedA (before [] ops.toList) i j = false) (h2 : orderedA (before [] ops.toList) j i = false) (hd : d ∈ looksAt ops.toList i) : (ops.toList[j]?).bind (·.dst) ≠ some d := by
  intro h
  rcases Nat.lt_or_ge i j with hlt | hge
  · have := hc.tmps j i hj hlt
    unfold tmpsApart at this
    rw [h1] at this
    simp only at this
    split at this
    · rename_i _ _ h3; exact anyIn_false h3 d (dst_mem h) hd
    · cases this
  · have := hc.tmps i j hi (by omega)
    unfold tmpsApart at this
    rw [h2] at this
    simp only at this
    split at this
    · rename_i _ h3 _; exact anyIn_false h3 d (dst_mem h) hd
    · cases this
theorem Checks.apart (hc : Checks ops F) {i j : Nat} (hi : i < ops.size) (hj : j < ops.size) (hne : j ≠ i) (h1 : orderedA (before [] ops.toList) i j = false) (h2 : orderedA (before [] ops.toList) j i = false) : Apart (F i) (F j) := by
  rcases Nat.lt_or_ge i j with hlt | hge
  · rcases hc.foots j i hj hlt with h | h
    · rw [h1] at h; cases h
    · exact h
  · rcases hc.foots i j hi (by omega) with h | h
    · rw [h2] at h; cases h
    · exact h.symm
theorem listedD_set {listed : Array Bool} {i : Nat} (hi : i < listed.size) (j : Nat) : listedD (listed.setIfInBounds i true) j = if j = i then true else listedD listed j := by
  unfold listedD
  simp only [Array.getD_eq_getD_getElem?, Array.getElem?_setIfInBounds]
  by_cases e : j = i
  · subst e; simp [hi]
  · simp [e, Ne.symm e]
/-- One more of the operations is made. -/
theorem at_step (hT : Tab E P) (hcf : CallsOk P B w0 cf) (tr : Trace E cf n ops.toList ops.toList S Tm V F) (hc : Checks ops F) {ρ0 : Ren} {listed : Array Bool} {ρ : Ren} {a : Act} {w : World} (hat : At E P B w0 n ops S Tm V F ρ0 listed ρ a w)
    {i : Nat} {rest : List Nat} (hi : i < ops.size) (hDi : listedD listed i = false) (hready : ∀ (o : Oper), ops.toList[i]? = some o → ∀ e ∈ o.after.toList, bindsA e = true → listedD listed e.on = true) :
    ∃ ρ' a' w', Steps P (lone (fat b a (.inRegion ops (i :: rest) :: k)) cs w) (lone (fat b a' (.inRegion ops rest :: k)) cs w') ∧ a'.defers = a.defers ∧ At E P B w0 n ops S Tm V F ρ0 (listed.setIfInBounds i true) ρ' a' w' := by
  obtain ⟨h, hh, hrel⟩ := hat.heap
  obtain ⟨t, ht, htrel⟩ := hat.tmps
  have hi' : i < ops.toList.length := by simpa using hi
  have ho : ops.toList[i]? = some ops.toList[i] := List.getElem?_eq_getElem hi'
  have hoa : ops[i]? = some ops.toList[i] := by simp
  have hg := hcf.good
  have hlen : ops.toList.length = ops.size := by simp
  -- what is ahead has been made; what has been made is not behind
  have hahead : ∀ j, orderedA (before [] ops.toList) j i = true → listedD listed j = true := by
    intro j hj
    obtain ⟨p, hp, hjp⟩ := ordered_mem hj
    have := bef_closed hc.back (fun x => listedD listed x = true ∨ x = i) (fun j o hjo hD e he hb => by
      rcases hD with hD | rfl
      · exact .inl (hat.closed j o hjo hD e he hb)
      · exact .inl (hready o hjo e he hb)) i p hp (.inr rfl) j hjp
    rcases this with h | h
    · exact h
    · have := bef_lt hc.back i p hp j hjp; omega
  have hbehind : ∀ j, listedD listed j = true → orderedA (before [] ops.toList) i j = false := by
    intro j hj
    cases hx : orderedA (before [] ops.toList) i j with
    | false => rfl
    | true =>
      obtain ⟨p, hp, hip⟩ := ordered_mem hx
      have := bef_closed hc.back (fun x => listedD listed x = true) (fun j o hjo hD e he hb => hat.closed j o hjo hD e he hb) j p hp hj i hip
      rw [hDi] at this; cases this
  have hord_lt : ∀ x y, orderedA (before [] ops.toList) x y = true → x < y := fun x y h => by
    obtain ⟨p, hp, hxp⟩ := ordered_mem h
    exact bef_lt hc.back y p hp x hxp
  have un1 : ∀ j, j < i → listedD listed j = false → orderedA (before [] ops.toList) i j = false ∧ orderedA (before [] ops.toList) j i = false := by
    intro j hji hj
    refine ⟨?_, ?_⟩
    · cases hx : orderedA (before [] ops.toList) i j with
      | false => rfl
      | true => have := hord_lt i j hx; omega
    · cases hx : orderedA (before [] ops.toList) j i with
      | false => rfl
      | true => have := hahead j hx; rw [hj] at this; cases this
  have un2 : ∀ j, i < j → listedD listed j = true → orderedA (before [] ops.toList) i j = false ∧ orderedA (before [] ops.toList) j i = false := by
    intro j hji hj
    refine ⟨hbehind j hj, ?_⟩
    cases hx : orderedA (before [] ops.toList) j i with
    | false => rfl
    | true => have := hord_lt j i hx; omega
  have ap1 : ∀ j, j < i → listedD listed j = false → Apart (F i) (F j) := fun j h1 h2 => hc.apart hi (by omega) (by omega) (un1 j h1 h2).1 (un1 j h1 h2).2
  have ap2 : ∀ j, i < j → j < ops.toList.length → listedD listed j = true → Apart (F i) (F j) := fun j h1 h2 h3 => hc.apart hi (by simpa using h2) (by omega) (un2 j h1 h3).1 (un2 j h1 h3).2
  -- the step, as the executor made it
  obtain ⟨s1, r1, r2, r3⟩ := footed_some (tr.run i _ ho)
  simp only at r1 r2
  have gd := good_stepA E cf hg ops.toList (Tm i) ops.toList[i]
  have hlook : ∀ d ∈ looks ops.toList ops.toList[i], getA t d = getA (Tm i) d := by
    intro d hd
    have hd' : d ∈ looksAt ops.toList i := by unfold looksAt; rw [nth_eq, ho]; exact hd
    rw [ht d]
    have := td_reads tr hi' hDi (d := d) (fun j h1 h2 => hc.look hi (by omega) (by omega) (un1 j h1 h2).1 (un1 j h1 h2).2 hd') (fun j h1 h2 h3 => hc.look hi (by simpa using h2) (by omega) (un2 j h1 h3).1 (un2 j h1 h3).2 hd') ops.size (by simp)
    rw [this, if_neg (by omega)]
  have hreads : ∀ k, k ∈ s1.rd ∨ ((S i).nx ≤ k ∧ k < s1.nx) → h.get k = (S i).h.get k := by
    intro k hk
    have hk' : k ∈ (F i).rd ∨ ((F i).lo ≤ k ∧ k < (F i).hi) := by rw [r2]; exact hk
    rw [hh k, hd_reads tr hg hi' hDi ap1 ap2 hk' ops.size (by simp), if_neg (by omega)]
  obtain ⟨h', g1, g2, g3⟩ := gd.same r1 h hreads
  have hrun : Run (stepA E cf ops.toList t ops.toList[i]) { S i with h := h, rd := Ks.emp, wr := Ks.emp } (V i) { s1 with h := h' } := by
    rw [stepA_congr hlook]; exact g1
  have hlo : (F i).lo = (S i).nx := by rw [r2]
  have hhi : (F i).hi = s1.nx := by rw [r2]
  have hfree : ∀ k, (S i).nx ≤ k → k < s1.nx → ρ k = none := fun k h1 h2 => hat.names i hi hDi k (by rw [hlo, hhi]; exact ⟨h1, h2⟩)
  obtain ⟨ρ', U, w', st, e1, e2, e3⟩ := step_goes (b := b) (k := k) (cs := cs) (rest := rest) (s := { S i with h := h, rd := Ks.emp, wr := Ks.emp }) (s' := { s1 with h := h' }) hT hcf hrel hfree htrel hoa hrun
  have hsz : i < listed.size := by rw [hat.size]; exact hi
  have hD1 : listedD (listed.setIfInBounds i true) i = true := by rw [listedD_set hsz, if_pos rfl]
  have hD2 : ∀ j, j ≠ i → listedD (listed.setIfInBounds i true) j = listedD listed j := fun j hj => by rw [listedD_set hsz, if_neg hj]
  refine ⟨ρ', a.put ops.toList[i].dst U, w', st, by cases ops.toList[i].dst <;> rfl, ?_⟩
  refine ⟨by simp [hat.size], ?_, ⟨h', ?_, e2⟩, ?_, ?_, hat.le.trans e1.1, ?_⟩
  · intro j o hjo hDj e he hb
    by_cases hji : j = i
    · subst hji
      have := hready o hjo e he hb
      by_cases hei : e.on = j
      · rw [hei]; exact hD1
      · rw [hD2 _ hei]; exact this
    · rw [hD2 j hji] at hDj
      have := hat.closed j o hjo hDj e he hb
      by_cases hei : e.on = i
      · rw [hei]; exact hD1
      · rw [hD2 _ hei]; exact this
  · intro k
    rw [hd_add tr hg hi' hDi hD1 hD2 ap2 k ops.size (by simp)]
    by_cases htk : Touch (F i) k
    · rw [if_pos ⟨by omega, htk⟩]
      have heq : h.get k = (S i).h.get k := by
        refine hreads k ?_
        rcases htk with hw | hw
        · have := (tr.wrote hg hi' hw).1
          rw [r2] at this; exact .inl this
        · rw [hlo, hhi] at hw; exact .inr hw
      rw [g2 k heq, r3]
    · rw [if_neg (fun e => htk e.2), ← hh k]
      refine g3 k (fun e => htk (.inl ?_)) (fun e => htk (.inr (by rw [hlo, hhi]; exact e)))
      rw [r2]; exact e
  · -- temporaries
    have hput := tr.put i _ ho
    cases hdst : ops.toList[i].dst with
    | none =>
      refine ⟨t, fun d => ?_, by simpa [Act.put, hdst] using htrel.mono e1.1⟩
      rw [td_add hi' hDi hD1 hD2 (fun j hj hne d => hc.dst hi (by simpa using hj) hne) d ops.size (by simp), ht d, if_neg (fun e => ?_)]
      have := e.2
      rw [ho, Option.bind_some, hdst] at this
      cases this
    | some d0 =>
      have hlt : d0 < n := by
        unfold putA at hput
        rw [hdst] at hput
        simp only at hput
        split at hput
        · rename_i hlt; exact blt_true hlt
        · exact (fail_some hput).elim
      have hrun2 : Run (putA n t (some d0) (V i)) { s1 with h := h' } (t.set d0 (V i)) { s1 with h := h' } := by
        unfold putA
        simp only
        rw [show Nat.blt d0 n = true from Nat.ble_eq_true_of_le hlt]
        rfl
      obtain ⟨_, ht'⟩ := put_snd (a := a) (dst := some d0) (htrel.mono e1.1) e3 hrun2
      refine ⟨t.set d0 (V i), fun d => ?_, ht'⟩
      rw [td_add hi' hDi hD1 hD2 (fun j hj hne d => hc.dst hi (by simpa using hj) hne) d ops.size (by simp), ← ht d]
      unfold getA
      rw [T.get_set]
      have hb : (ops.toList[i]?).bind (·.dst) = some d0 := by rw [ho]; simpa using hdst
      by_cases e : d = d0
      · subst e; rw [if_pos rfl, if_pos ⟨by omega, hb⟩]
      · rw [if_neg e, if_neg (fun e2 => e (by have := hb.symm.trans e2.2; cases this; rfl))]
  · intro j hj hDj k hk
    have hji : j ≠ i := fun e => by subst e; rw [hD1] at hDj; cases hDj
    rw [hD2 j hji] at hDj
    rw [e1.2 k (fun e => ?_)]
    · exact hat.names j hj hDj k hk
    · simp only at e
      have fj := tr.foot hg (i := j) (by simpa using hj)
      have fi := tr.foot hg hi'
      rcases Nat.lt_or_ge i j with hlt | hge
      · have := tr.nx_mono hg j (i + 1) (by omega) (by simp; omega); omega
      · have := tr.nx_mono hg i (j + 1) (by omega) (by simp; omega); omega
  · intro k hk
    have fi := tr.foot hg hi'
    have h1 := tr.nx_mono hg i 0 (by omega) (by omega)
    have h2 := tr.nx_mono hg ops.size (i + 1) (by omega) (by simp)
    rw [e1.2 k (fun e => hk (by simp only at e; omega))]
    exact hat.old k hk
end
end Go.Aex
