/- Each of the executor's steps touches what it lists, and no more. -/
import Derived.Test.YtefleapekgbpcaaGreatDoorAexC
set_option linter.unusedVariables false
namespace Go.Aex

/-- What holds of each of the executor's steps: it makes names from 'nx' on; what it doesn't list it doesn't touch; and it does the same in any state that reads alike where it reads. -/
structure Good {α : Type} (m : M α) : Prop where
  mono : ∀ {s x s'}, m s = some (x, s') → s.nx ≤ s'.nx ∧ (∀ k ∈ s.rd, k ∈ s'.rd) ∧ (∀ k ∈ s.wr, k ∈ s'.wr)
  keep : ∀ {s x s'}, m s = some (x, s') → (∀ k, s.h.get k ≠ none → s'.h.get k ≠ none) ∧ (∀ k, s.nx ≤ k ∧ k < s'.nx → s.h.get k = none)
  wrote : ∀ {s x s'}, m s = some (x, s') → ∀ k ∈ s'.wr, k ∈ s.wr ∨ (k ∈ s'.rd ∧ (s.h.get k ≠ none ∨ (s.nx ≤ k ∧ k < s'.nx)))
  frame : ∀ {s x s'}, m s = some (x, s') → ∀ k, k ∉ s'.wr → ¬(s.nx ≤ k ∧ k < s'.nx) → s'.h.get k = s.h.get k
  same : ∀ {s x s'}, m s = some (x, s') → ∀ t : T AObj, (∀ k, k ∈ s'.rd ∨ (s.nx ≤ k ∧ k < s'.nx) → t.get k = s.h.get k) →
    ∃ t', m { s with h := t } = some (x, { s' with h := t' }) ∧
      (∀ k, t.get k = s.h.get k → t'.get k = s'.h.get k) ∧
      (∀ k, k ∉ s'.wr → ¬(s.nx ≤ k ∧ k < s'.nx) → t'.get k = t.get k)

theorem bnd_eq {α β : Type} {m : M α} {f : α → M β} {s s' : St} {y : β} (h : bnd m f s = some (y, s')) : ∃ x s1, m s = some (x, s1) ∧ f x s1 = some (y, s') := by
  unfold bnd at h
  split at h
  · cases h
  · rename_i x s1 hm; exact ⟨x, s1, hm, h⟩
theorem good_ret {α : Type} (a : α) : Good (ret a) where
  mono h := by cases h; exact ⟨Nat.le_refl _, fun _ h => h, fun _ h => h⟩
  keep h := by cases h; exact ⟨fun _ h => h, fun k hk => by omega⟩
  wrote h k hk := by cases h; exact .inl hk
  frame h k _ _ := by cases h; rfl
  same h t ht := by cases h; exact ⟨t, rfl, fun _ h => h, fun _ _ _ => rfl⟩
theorem good_fail {α : Type} : Good (fail : M α) where
  mono h := by cases h
  keep h := by cases h
  wrote h := by cases h
  frame h := by cases h
  same h := by cases h
theorem good_ofOpt {α : Type} (o : Option α) : Good (ofOpt o) := by
  cases o with
  | none => exact good_fail
  | some a => exact good_ret a
theorem good_bnd {α β : Type} {m : M α} {f : α → M β} (hm : Good m) (hf : ∀ x, Good (f x)) : Good (bnd m f) where
  mono h := by
    obtain ⟨x, s1, h1, h2⟩ := bnd_eq h
    have a := hm.mono h1; have b := (hf x).mono h2
    exact ⟨Nat.le_trans a.1 b.1, fun k hk => b.2.1 k (a.2.1 k hk), fun k hk => b.2.2 k (a.2.2 k hk)⟩
  keep {s y s'} h := by
    obtain ⟨x, s1, h1, h2⟩ := bnd_eq h
    have a := hm.keep h1; have b := (hf x).keep h2
    have a' := hm.mono h1; have b' := (hf x).mono h2
    refine ⟨fun k hk => b.1 k (a.1 k hk), fun k hk => ?_⟩
    by_cases hlt : k < s1.nx
    · exact a.2 k ⟨hk.1, hlt⟩
    · have := b.2 k ⟨by omega, hk.2⟩
      cases hh : s.h.get k with
      | none => rfl
      | some o => exact absurd this (a.1 k (by rw [hh]; simp))
  wrote {s y s'} h k hk := by
    obtain ⟨x, s1, h1, h2⟩ := bnd_eq h
    have a' := hm.mono h1; have b' := (hf x).mono h2
    rcases (hf x).wrote h2 k hk with hw | ⟨hr, hne⟩
    · rcases hm.wrote h1 k hw with hw' | ⟨hr, hne⟩
      · exact .inl hw'
      · exact .inr ⟨b'.2.1 k hr, hne.elim .inl (fun e => .inr (by omega))⟩
    · by_cases hw : k ∈ s1.wr
      · rcases hm.wrote h1 k hw with hw' | ⟨hr', hne'⟩
        · exact .inl hw'
        · exact .inr ⟨hr, hne'.elim .inl (fun e => .inr (by omega))⟩
      · refine .inr ⟨hr, ?_⟩
        rcases hne with hne | hne
        · by_cases hfr : s.nx ≤ k ∧ k < s1.nx
          · exact .inr (by omega)
          · exact .inl (by rw [← hm.frame h1 k hw hfr]; exact hne)
        · exact .inr (by omega)
  frame {s y s'} h k hk hn := by
    obtain ⟨x, s1, h1, h2⟩ := bnd_eq h
    have a' := hm.mono h1; have b' := (hf x).mono h2
    rw [(hf x).frame h2 k hk (by omega), hm.frame h1 k (fun e => hk (b'.2.2 k e)) (by omega)]
  same {s y s'} h t ht := by
    obtain ⟨x, s1, h1, h2⟩ := bnd_eq h
    have a' := hm.mono h1; have b' := (hf x).mono h2
    obtain ⟨t1, e1, c1, d1⟩ := hm.same h1 t (fun k hk => ht k (hk.elim (fun e => .inl (b'.2.1 k e)) (fun e => .inr (by omega))))
    obtain ⟨t2, e2, c2, d2⟩ := (hf x).same h2 t1 (fun k hk => c1 k (ht k (hk.elim .inl (fun e => .inr (by omega)))))
    refine ⟨t2, ?_, fun k hk => c2 k (c1 k hk), fun k hk hn => ?_⟩
    · unfold bnd
      rw [e1]
      exact e2
    · rw [d2 k hk (by omega), d1 k (fun e => hk (b'.2.2 k e)) (by omega)]
theorem good_getO (i : Nat) : Good (getO i) where
  mono {s x s'} h := by
    rw [getO_eq] at h; dsimp only at h; split at h
    · cases h
    · cases h; exact ⟨Nat.le_refl _, fun _ h => Ks.mem_ins_of h, fun _ h => h⟩
  keep {s x s'} h := by
    rw [getO_eq] at h; dsimp only at h; split at h
    · cases h
    · cases h; exact ⟨fun _ h => h, fun k hk => by simp only at hk; omega⟩
  wrote {s x s'} h k hk := by
    rw [getO_eq] at h; dsimp only at h; split at h
    · cases h
    · cases h; exact .inl hk
  frame {s x s'} h k _ _ := by
    rw [getO_eq] at h; dsimp only at h; split at h
    · cases h
    · cases h; rfl
  same {s x s'} h t ht := by
    rw [getO_eq] at h; dsimp only at h; split at h
    · cases h
    · rename_i o ho
      cases h
      refine ⟨t, ?_, fun _ h => h, fun _ _ _ => rfl⟩
      have := ht i (.inl (Ks.mem_ins_self))
      rw [getO_eq]; dsimp only
      simp only [this, ho]
theorem good_setO (i : Nat) (o : AObj) : Good (setO i o) where
  mono {s x s'} h := by
    rw [setO_eq] at h; dsimp only at h; split at h
    · cases h
    · cases h; exact ⟨Nat.le_refl _, fun _ h => Ks.mem_ins_of h, fun _ h => Ks.mem_ins_of h⟩
  keep {s x s'} h := by
    rw [setO_eq] at h; dsimp only at h; split at h
    · cases h
    · cases h
      refine ⟨fun k hk => ?_, fun k hk => by simp only at hk; omega⟩
      simp only [T.get_set]
      split
      · simp
      · exact hk
  wrote {s x s'} h k hk := by
    rw [setO_eq] at h; dsimp only at h; split at h
    · cases h
    · rename_i o' ho
      cases h
      rcases Ks.mem_ins.1 hk with rfl | hk
      · exact .inr ⟨Ks.mem_ins_self, .inl (by rw [ho]; simp)⟩
      · exact .inl hk
  frame {s x s'} h k hk _ := by
    rw [setO_eq] at h; dsimp only at h; split at h
    · cases h
    · cases h
      simp only [T.get_set]
      rw [if_neg (fun e => hk (by subst e; exact Ks.mem_ins_self))]
  same {s x s'} h t ht := by
    rw [setO_eq] at h; dsimp only at h; split at h
    · cases h
    · rename_i o' ho
      cases h
      have := ht i (.inl (Ks.mem_ins_self))
      refine ⟨t.set i o, ?_, fun k hk => ?_, fun k hk _ => ?_⟩
      · rw [setO_eq]; dsimp only
        simp only [this, ho]
      · simp only [T.get_set]
        split
        · rfl
        · exact hk
      · simp only [T.get_set]
        rw [if_neg (fun e => hk (by subst e; exact Ks.mem_ins_self))]
theorem good_newO (o : AObj) : Good (newO o) where
  mono {s x s'} h := by
    rw [newO_eq] at h; dsimp only at h; split at h
    · cases h; exact ⟨Nat.le_succ _, fun _ h => h, fun _ h => h⟩
    · cases h
  keep {s x s'} h := by
    rw [newO_eq] at h; dsimp only at h; split at h
    · rename_i hn
      cases h
      refine ⟨fun k hk => ?_, fun k hk => ?_⟩
      · simp only [T.get_set]; split
        · simp
        · exact hk
      · obtain rfl : k = s.nx := by simp only at hk; omega
        exact hn
    · cases h
  wrote {s x s'} h k hk := by
    rw [newO_eq] at h; dsimp only at h; split at h
    · cases h; exact .inl hk
    · cases h
  frame {s x s'} h k hk hn := by
    rw [newO_eq] at h; dsimp only at h; split at h
    · cases h
      simp only [T.get_set]
      rw [if_neg (fun e => hn (by simp only; omega))]
    · cases h
  same {s x s'} h t ht := by
    rw [newO_eq] at h; dsimp only at h; split at h
    · rename_i hnone
      cases h
      have := ht s.nx (.inr (by simp only; omega))
      refine ⟨t.set s.nx o, ?_, fun k hk => ?_, fun k hk hn => ?_⟩
      · rw [newO_eq]; dsimp only
        simp only [this, hnone]
      · simp only [T.get_set]
        split
        · rfl
        · exact hk
      · simp only [T.get_set]
        rw [if_neg (fun e => hn (by simp only; omega))]
    · cases h
end Go.Aex
