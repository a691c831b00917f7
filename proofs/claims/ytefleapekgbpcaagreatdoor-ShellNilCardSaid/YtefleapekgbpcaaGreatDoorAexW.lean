/- A region, in whatever order. -/
import Derived.Test.YtefleapekgbpcaaGreatDoorAexV
set_option linter.unusedVariables false
set_option linter.unusedSimpArgs false
namespace Go.Aex
open Go.RowKit Go.Conc
section
variable {E : Env} {P : Program} {B : Nat} {w0 : World} {cf : Bool → Nat → List AV → M AV} {n : Nat} {ops : Array Oper} {S : Nat → St} {Tm : Nat → T AV} {V : Nat → AV} {F : Nat → Foot} {b : Frame} {k : List Item} {cs : List Frame}
theorem ready_mem {listed : Array Bool} (hsz : listed.size = ops.size) {i : Nat} : i ∈ Region.ready .any ops listed ↔ i < ops.size ∧ listedD listed i = false ∧ ∀ (o : Oper), ops.toList[i]? = some o → ∀ e ∈ o.after.toList, bindsA e = true → listedD listed e.on = true := by
  unfold Region.ready listedD
  rw [List.mem_filter]
  constructor
  · rintro ⟨h1, h2⟩
    have h1 := List.mem_range.1 h1
    have h1' : i < listed.size := by rw [hsz]; exact h1
    rw [Bool.and_eq_true] at h2
    obtain ⟨h2, h3⟩ := h2
    refine ⟨h1, ?_, ?_⟩
    · simpa [Array.getD_eq_getD_getElem?, h1'] using h2
    · intro o ho e he hb
      have ho' : ops[i]? = some o := by simpa using ho
      rw [ho'] at h3
      simp only [Option.map_some, Option.getD_some] at h3
      rw [← Array.all_toList, List.all_eq_true] at h3
      have := h3 e he
      rw [bindsA_eq, hb] at this
      simpa using this
  · rintro ⟨h1, h2, h3⟩
    have h1' : i < listed.size := by rw [hsz]; exact h1
    refine ⟨List.mem_range.2 h1, ?_⟩
    have ho : ops.toList[i]? = some ops[i] := by simp [h1]
    have ho' : ops[i]? = some ops[i] := by simp [h1]
    rw [Bool.and_eq_true]
    refine ⟨by simpa [Array.getD_eq_getD_getElem?, h1'] using h2, ?_⟩
    rw [ho']
    simp only [Option.map_some, Option.getD_some]
    rw [← Array.all_toList, List.all_eq_true]
    intro e he
    rw [bindsA_eq]
    cases hb : bindsA e with
    | false => rfl
    | true => simpa using h3 _ ho e he hb
def unl (m : Nat) (listed : Array Bool) : Nat := match m with
  | 0 => 0
  | m + 1 => unl m listed + (if listedD listed m = true then 0 else 1)
theorem unl_zero {listed : Array Bool} : ∀ {m : Nat}, unl m listed = 0 → ∀ j, j < m → listedD listed j = true
  | 0, _, j, hj => by omega
  | m + 1, h, j, hj => by
    simp only [unl] at h
    by_cases e : j = m
    · subst e
      by_cases c : listedD listed j = true
      · exact c
      · rw [if_neg c] at h; omega
    · exact unl_zero (m := m) (by omega) j (by omega)
theorem unl_set {listed : Array Bool} {i : Nat} (hi : i < listed.size) (hD : listedD listed i = false) : ∀ (m : Nat), unl m (listed.setIfInBounds i true) + (if i < m then 1 else 0) = unl m listed
  | 0 => by simp [unl]
  | m + 1 => by
    have ih := unl_set hi hD m
    simp only [unl, listedD_set hi]
    by_cases e : m = i
    · subst e
      rw [if_neg (Nat.lt_irrefl _)] at ih
      rw [hD]
      simp
      omega
    · rw [if_neg e]
      by_cases c : i < m
      · rw [if_pos c] at ih; rw [if_pos (show i < m + 1 by omega)]; omega
      · rw [if_neg c] at ih; rw [if_neg (show ¬ i < m + 1 by omega)]; omega
theorem ready_nil {listed : Array Bool} (hsz : listed.size = ops.size) (hb : backs 0 ops.toList = true) (h : Region.ready .any ops listed = []) : ∀ j, j < ops.size → listedD listed j = true := by
  intro j
  induction j using Nat.strongRecOn with
  | _ j ih =>
    intro hj
    cases hD : listedD listed j with
    | true => rfl
    | false =>
      have : j ∈ Region.ready .any ops listed := (ready_mem hsz).2 ⟨hj, hD, fun o ho e he hbe => by
        have := backs_all hb j o ho e he hbe
        exact ih e.on (by omega) (by omega)⟩
      rw [h] at this; cases this
theorem go_goes (hT : Tab E P) (hcf : CallsOk P B w0 cf) (tr : Trace E cf n ops.toList ops.toList S Tm V F) (hc : Checks ops F) {ρ0 : Ren} : ∀ (fuel tt : Nat) (listed : Array Bool) (ρ : Ren) (a : Act) (w : World), At E P B w0 n ops S Tm V F ρ0 listed ρ a w → unl ops.size listed ≤ fuel →
    ∃ ρ' a' w' listed', Steps P (lone (fat b a (.inRegion ops (Region.linearise.go .any ops fuel tt listed []) :: k)) cs w) (lone (fat b a' (.inRegion ops [] :: k)) cs w') ∧ a'.defers = a.defers ∧ At E P B w0 n ops S Tm V F ρ0 listed' ρ' a' w' ∧ ∀ j, j < ops.size → listedD listed' j = true
  | 0, tt, listed, ρ, a, w, hat, hu => by
    refine ⟨ρ, a, w, listed, ?_, rfl, hat, unl_zero (by omega)⟩
    simp only [Region.linearise.go, List.reverse_nil]
    exact Steps.refl _ _
  | fuel + 1, tt, listed, ρ, a, w, hat, hu => by
    simp only [Region.linearise.go]
    change ∃ ρ' a' w' listed', Steps P (lone (fat b a (.inRegion ops (match (Region.ready .any ops listed)[tt % (Region.ready .any ops listed).length]? with
      | some i => Region.linearise.go .any ops fuel (tt / (Region.ready .any ops listed).length) (listed.setIfInBounds i true) [i]
      | none => [].reverse) :: k)) cs w) _ ∧ _
    cases hi : (Region.ready .any ops listed)[tt % (Region.ready .any ops listed).length]? with
    | none =>
      have hnil : Region.ready .any ops listed = [] := by
        cases hr : Region.ready .any ops listed with
        | nil => rfl
        | cons x xs =>
          rw [hr] at hi
          have hlt : tt % (x :: xs).length < (x :: xs).length := Nat.mod_lt _ (by simp)
          simp at hi
          simp at hlt
          omega
      refine ⟨ρ, a, w, listed, ?_, rfl, hat, ready_nil hat.size hc.back hnil⟩
      simp only [List.reverse_nil]
      exact Steps.refl _ _
    | some i =>
      simp only []
      rw [linearise_go_acc, List.reverse_singleton, List.singleton_append]
      obtain ⟨h1, h2, h3⟩ := (ready_mem hat.size).1 (List.mem_of_getElem? hi)
      obtain ⟨ρ1, a1, w1, st1, d1, at1⟩ := at_step (b := b) (k := k) (cs := cs) (rest := Region.linearise.go .any ops fuel (tt / (Region.ready .any ops listed).length) (listed.setIfInBounds i true) []) hT hcf tr hc hat h1 h2 h3
      have hset := unl_set (listed := listed) (i := i) (by rw [hat.size]; exact h1) h2 ops.size
      rw [if_pos h1] at hset
      obtain ⟨ρ2, a2, w2, l2, st2, d2, at2, hall⟩ := go_goes hT hcf tr hc fuel _ _ ρ1 a1 w1 at1 (by omega)
      exact ⟨ρ2, a2, w2, l2, st1.trans st2, d2.trans d1, at2, hall⟩
theorem region_goes (hT : Tab E P) (hcf : CallsOk P B w0 cf) {id : Nat} {draw : Bool} {s s' : St} {ρ : Ren} {w : World} {a : Act} {t t' : T AV} (hr : Rel B w0 ρ s.h.get w) (hfree : ∀ k, s.nx ≤ k → k < s'.nx → ρ k = none) (ht : TRel ρ n t a.tmps)
    (h : Run (regionA E cf n ops.toList draw t) s t' s') : ∃ ρ' a' w', Steps P (lone (fat b a (.code (.region id ops draw) :: k)) cs w) (lone (fat b a' k) cs w') ∧ a'.defers = a.defers ∧ Ext ρ ρ' s.nx s'.nx ∧ Rel B w0 ρ' s'.h.get w' ∧ TRel ρ' n t' a'.tmps := by
  unfold regionA at h
  split at h
  · obtain ⟨ρ', a', w', h1, h2, h3⟩ := seq_goes (b := b) (k := k) (cs := cs) hT hcf ops.toList 0 s s' ρ w a t t' (fun j => by simp) hr hfree ht h
    refine ⟨ρ', a', w', Steps.head f_region ?_, h2, h3⟩
    rw [List.range_eq_range']
    simpa using h1
  · split at h
    · exact (fail_some h).elim
    · rename_i hst
      replace h := bnd_some h; obtain ⟨r, s1, g1, h⟩ := h
      split at h
      · rename_i hf
        obtain ⟨rfl, rfl⟩ := ret_some h
        obtain ⟨S, Tm, V, F, tr, hS0, hT0, hSl, hTl, hfs⟩ := drawA_trace ops.toList t r.1 [] r.2 s s1 (by cases r; exact g1)
        have hlen : ops.toList.length = ops.size := by simp
        unfold staticOk at hst
        have hback : backs 0 ops.toList = true := by
          cases hb : backs 0 ops.toList with
          | true => rfl
          | false => rw [hb] at hst; cases hst
        rw [hback] at hst
        simp only at hst
        have hc : Checks ops F := ⟨hback, fun j i hj hi => tmpsFast_apart hst (by rw [hlen]; exact hj) hi, fun j i hj hi => by
          have hx : ∀ x, x < ops.size → r.2[x]? = some (F x) := fun x hx => by
            rw [hfs, List.nil_append, List.getElem?_map, List.getElem?_range (by rw [hlen]; omega)]; rfl
          obtain ⟨p, hp, _, h3⟩ := feetOk_all hf j (F j) (hx j hj)
          rcases h3 i (F i) hi (hx i (by omega)) with h | h
          · rw [Nat.zero_add] at h
            refine .inl ?_
            unfold orderedA
            rw [nth_eq, hp]
            exact h
          · exact .inr h⟩
        have hempty : ∀ j, listedD (Array.replicate ops.size false) j = false := fun j => by
          unfold listedD
          rw [Array.getD_eq_getD_getElem?, Array.getElem?_replicate]
          split <;> rfl
        have hnx : (S 0).nx = s.nx := by rw [hS0]
        have hnx' : (S ops.size).nx = s1.nx := by rw [← hlen, hSl]
        have at0 : At E P B w0 n ops S Tm V F ρ (Array.replicate ops.size false) ρ a w.drew := by
          refine ⟨by simp, fun j o _ hD => ?_, ⟨s.h, fun k => ?_, hr.drew⟩, ⟨t, fun d => ?_, ht⟩, fun i hi _ k hk => ?_, Le.refl _, fun _ _ => rfl⟩
          · rw [hempty] at hD; cases hD
          · rw [hd_none _ hempty, hS0]
          · rw [td_none _ hempty, hT0]
          · have f := tr.foot hcf.good (i := i) (by rw [hlen]; exact hi)
            have h1 := tr.nx_mono hcf.good i 0 (by omega) (by rw [hlen]; omega)
            have h2 := tr.nx_mono hcf.good ops.size (i + 1) (by omega) (by rw [hlen]; exact Nat.le_refl _)
            exact hfree k (by omega) (by omega)
        have hunl : ∀ m, unl m (Array.replicate ops.size false) ≤ m := fun m => by
          induction m with
          | zero => exact Nat.le_refl _
          | succ m ih => simp only [unl]; split <;> omega
        obtain ⟨ρ', a', w', l', st, hd, hat, hall⟩ := go_goes (b := b) (k := k) (cs := cs) hT hcf tr hc ops.size (w.tape w.drawn (.order b.fn id)) _ ρ a w.drew at0 (hunl _)
        obtain ⟨h, hh, hrel⟩ := hat.heap
        obtain ⟨t2, htt, htrel⟩ := hat.tmps
        refine ⟨ρ', a', w', ?_, hd, ⟨hat.le, fun k hk => hat.old k (by rw [hnx, hnx']; exact hk)⟩, ?_, ?_⟩
        · refine Steps.head f_draw (Steps.trans (m₁ := lone (fat b a' (.inRegion ops [] :: k)) cs w') ?_ (.one f_region_end))
          simp only [Region.schedule, hT.mixed, Bool.true_or, if_true]
          exact st
        · have : h.get = s1.h.get := funext fun k => by
            rw [hh k, ← hlen, hd_all tr hcf.good _ (fun j hj => hall j (by rw [← hlen]; exact hj)) k _ (Nat.le_refl _), hSl]
          rw [← this]; exact hrel
        · refine ⟨htrel.1, fun d => ?_⟩
          rw [← htrel.2 d, htt d, ← hlen, td_all tr _ (fun j hj => hall j (by rw [← hlen]; exact hj)) d _ (Nat.le_refl _), hTl]
      · exact (fail_some h).elim
end
end Go.Aex
