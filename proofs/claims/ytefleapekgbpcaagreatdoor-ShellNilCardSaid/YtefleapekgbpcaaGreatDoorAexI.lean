/- The executor's operations hold of the program's machine: addresses, parts, slices. -/
import Derived.Test.YtefleapekgbpcaaGreatDoorAexF
set_option linter.unusedVariables false
set_option linter.unusedSimpArgs false
namespace Go.Aex
open Go.RowKit

theorem sizeA_some {E : Env} {t n : Nat} (h : sizeA E t = some n) : ∃ ti, E.ty t = some ti ∧ ti.size = n := by
  unfold sizeA at h
  split at h
  · cases h
  · rename_i ti hti; cases h; exact ⟨ti, hti, rfl⟩
theorem run_sizeA {E : Env} {P : Program} (hT : Tab E P) {t n : Nat} (h : sizeA E t = some n) (w : World) : (sizeOf t).run P w = .ok n w := by
  obtain ⟨ti, hti, rfl⟩ := sizeA_some h
  exact run_sizeOf_of (hT.ty t ti hti)
theorem toList_nth {α : Type} {a : Array α} {n : Nat} {x : α} (h : nth a.toList n = some x) : a[n]? = some x := by
  rw [nth_eq] at h; simpa using h
theorem blt_true {a b : Nat} (h : Nat.blt a b = true) : a < b := Nat.le_of_ble_eq_true h
theorem ble_true {a b : Nat} (h : Nat.ble a b = true) : a ≤ b := Nat.le_of_ble_eq_true h
theorem blt_false {a b : Nat} (h : Nat.blt a b = false) : ¬ a < b := fun e => by rw [show Nat.blt a b = true from Nat.ble_eq_true_of_le e] at h; cases h
theorem ble_false {a b : Nat} (h : Nat.ble a b = false) : ¬ a ≤ b := fun e => by rw [Nat.ble_eq_true_of_le e] at h; cases h
theorem beq_true {a b : Nat} (h : Nat.beq a b = true) : a = b := Nat.eq_of_beq_eq_true h
theorem beq_false {a b : Nat} (h : Nat.beq a b = false) : a ≠ b := fun e => by subst e; simp at h

section
variable {E : Env} {P : Program} {B : Nat} {w0 w : World} {ρ : Ren} {s s' : St}
theorem fieldAddr_snd (hT : Tab E P) {t f : Nat} {x v : AV} {X : Value} (hr : Rel B w0 ρ s.h.get w) (hx : conc ρ x = some X) (h : Run (fieldAddrA E t x f) s v s') : Does P B w0 ρ s s' w (Instr.fieldAt t X f) v := by
  unfold fieldAddrA at h
  replace h := bnd_some h; obtain ⟨ti, s1, h1, h⟩ := h
  obtain ⟨hti, rfl⟩ := tyOf_some h1
  have hty := hT.ty t ti hti
  split at h
  · rename_i fs hd
    split at h
    · rename_i fd hf
      split at h
      · rename_i i o m hm
        rw [strictN_eq] at h
        obtain ⟨rfl, rfl⟩ := ret_some h
        obtain ⟨p, hp, rfl⟩ := ptr_conc hx
        refine Does.reads hr (Reads.refl _) (V := .pointer (some ⟨p.blk, p.base + (o + fd.offset), none⟩)) ?_ (by simp [conc, hp])
        have := toList_nth hf
        simp [Instr.fieldAt, run_underlying_of hty.under, hd, this, Instr.sureAddr, fieldPlace, run_sizeA hT hm, add_off, Nat.add_assoc]
      · exact (fail_some h).elim
    · exact (fail_some h).elim
  · exact (fail_some h).elim
def capV (p : Pl) : ACap → Nat
  | .lit c => c
  | .rest k => p.cap - k
theorem slice_conc {i o len : Nat} {cap : ACap} {X : Value} (h : conc ρ (.slice i o len cap) = some X) : ∃ p, ρ i = some p ∧ X = .slice (some ⟨p.blk, p.base + o, none⟩) len (capV p cap) := by
  cases cap <;> simp only [conc] at h <;> (cases hp : ρ i with | none => rw [hp] at h; cases h | some p => rw [hp] at h; cases h; exact ⟨p, rfl, rfl⟩)
theorem arrayAt_snd (hT : Tab E P) {t : Nat} {x v : AV} {X : Value} (hr : Rel B w0 ρ s.h.get w) (hx : conc ρ x = some X) (h : Run (arrayAtA E t x) s v s') : Does P B w0 ρ s s' w (Instr.arrayAt t X) v := by
  unfold arrayAtA at h
  replace h := bnd_some h; obtain ⟨ti, s1, h1, h⟩ := h
  obtain ⟨hti, rfl⟩ := tyOf_some h1
  have hty := hT.ty t ti hti
  split at h
  · rename_i n el i o len cap hd
    split at h
    · rename_i hle
      have hle := Nat.le_of_ble_eq_true hle
      obtain ⟨rfl, rfl⟩ := ret_some h
      obtain ⟨p, hp, hX⟩ := slice_conc hx; subst hX
      refine Does.reads hr (Reads.refl _) (V := .pointer (some ⟨p.blk, p.base + o, none⟩)) ?_ (by simp [conc, hp])
      have h3 : ¬ len < n := by omega
      simp [Instr.arrayAt, run_underlying_of hty.under, hd, h3]
    · exact (fail_some h).elim
  · exact (fail_some h).elim
theorem indexAddr_snd (hT : Tab E P) {t : Nat} {x ix v : AV} {X I : Value} (hr : Rel B w0 ρ s.h.get w) (hx : conc ρ x = some X) (hi : conc ρ ix = some I) (h : Run (indexAddrA E t x ix) s v s') : Does P B w0 ρ s s' w (Instr.indexAt t X I) v := by
  unfold indexAddrA at h
  replace h := bnd_some h; obtain ⟨ti, s1, h1, h⟩ := h
  obtain ⟨hti, rfl⟩ := tyOf_some h1
  have hty := hT.ty t ti hti
  split at h
  · rename_i el i o len cap k n hd
    split at h
    · rename_i hlt
      have hlt := blt_true hlt
      split at h
      · rename_i sz hsz
        rw [strictN_eq] at h
        obtain ⟨rfl, rfl⟩ := ret_some h
        obtain ⟨p, hp, hX⟩ := slice_conc hx; subst hX
        simp only [conc] at hi; cases hi
        refine Does.reads hr (Reads.refl _) (V := .pointer (some ⟨p.blk, p.base + (o + n * sz), none⟩)) ?_ (by simp [conc, hp])
        have h2 : (n : Int) < (len : Int) := by omega
        have h3 : ¬ len ≤ n := by omega
        simp [Instr.indexAt, asIntOf, run_underlying_of hty.under, hd, h2, h3, run_sizeA hT hsz, add_off, Nat.add_assoc]
      · exact (fail_some h).elim
    · exact (fail_some h).elim
  · rename_i len el i o k n hd
    split at h
    · rename_i hlt
      have hlt := blt_true hlt
      split at h
      · rename_i sz hsz
        rw [strictN_eq] at h
        obtain ⟨rfl, rfl⟩ := ret_some h
        obtain ⟨p, hp, rfl⟩ := ptr_conc hx
        simp only [conc] at hi; cases hi
        refine Does.reads hr (Reads.refl _) (V := .pointer (some ⟨p.blk, p.base + (o + n * sz), none⟩)) ?_ (by simp [conc, hp])
        have h2 : (n : Int) < (len : Int) := by omega
        have h3 : ¬ len ≤ n := by omega
        simp [Instr.indexAt, asIntOf, run_underlying_of hty.under, hd, h2, h3, Instr.sureAddr, run_sizeA hT hsz, add_off, Nat.add_assoc]
      · exact (fail_some h).elim
    · exact (fail_some h).elim
  · exact (fail_some h).elim
theorem agg_conc {l : List AV} {X : Value} (h : conc ρ (.agg l) = some X) : ∃ L, concL ρ l = some L ∧ X = .agg L.toArray := by
  simp only [conc] at h
  cases hl : concL ρ l with
  | none => rw [hl] at h; cases h
  | some L => rw [hl] at h; cases h; exact ⟨L, rfl, rfl⟩
theorem concL_drop : ∀ {l : List AV} {L : List Value} (n : Nat), concL ρ l = some L → concL ρ (l.drop n) = some (L.drop n)
  | l, L, 0, h => by simpa using h
  | [], L, n + 1, h => by simp only [concL] at h; cases h; simp [concL]
  | v :: l, L, n + 1, h => by
    obtain ⟨x, y, hx, hy, rfl⟩ := concL_cons h
    simpa using concL_drop n hy
theorem concL_take : ∀ {l : List AV} {L : List Value} (n : Nat), concL ρ l = some L → concL ρ (l.take n) = some (L.take n)
  | l, L, 0, h => by simp [concL]
  | [], L, n + 1, h => by simp only [concL] at h; cases h; simp [concL]
  | v :: l, L, n + 1, h => by
    obtain ⟨x, y, hx, hy, rfl⟩ := concL_cons h
    simpa using concL_mk hx (concL_take n hy)
theorem concL_append : ∀ {l m : List AV} {L N : List Value}, concL ρ l = some L → concL ρ m = some N → concL ρ (l ++ m) = some (L ++ N)
  | [], m, L, N, h, k => by simp only [concL] at h; cases h; simpa using k
  | v :: l, m, L, N, h, k => by
    obtain ⟨x, y, hx, hy, rfl⟩ := concL_cons h
    simpa using concL_mk hx (concL_append hy k)
/-- A part of a struct or an array that is a value. -/
theorem part_snd (hT : Tab E P) {t off : Nat} {cs : List AV} {L : List Value} {v : AV} (hL : concL ρ cs = some L) (h : partA E t cs off = some v) : ∃ V, conc ρ v = some V ∧ (part t L.toArray off).run P w = .ok V w := by
  unfold partA at h
  split at h
  · cases h
  · rename_i ti hti
    have hty := hT.ty t ti hti
    split at h
    · rename_i hag
      split at h
      · rename_i hle
        cases h
        refine ⟨.agg ((L.drop off).take ti.size).toArray, by simp [conc, concL_take _ (concL_drop _ hL)], ?_⟩
        have e : L.toArray.extract off (off + ti.size) = ((L.drop off).take ti.size).toArray := by
          rw [List.extract_toArray, List.extract_eq_take_drop]
          congr 2; omega
        simp [part, run_isAgg_of hty, hag, run_sizeOf_of hty, e]
      · cases h
    · rename_i hag
      rw [nth_eq] at h
      obtain ⟨V, hV, hg⟩ := concL_get hL off v h
      refine ⟨V, hV, ?_⟩
      have : L.toArray[off]? = some V := by simpa using hg
      simp [part, run_isAgg_of hty, hag, this]
theorem field_snd (hT : Tab E P) {t f : Nat} {x v : AV} {X : Value} (hr : Rel B w0 ρ s.h.get w) (hx : conc ρ x = some X) (h : Run (fieldA E t x f) s v s') : Does P B w0 ρ s s' w (Instr.field t X f) v := by
  unfold fieldA at h
  replace h := bnd_some h; obtain ⟨ti, s1, h1, h⟩ := h
  obtain ⟨hti, rfl⟩ := tyOf_some h1
  have hty := hT.ty t ti hti
  split at h
  · rename_i fs hd
    split at h
    · rename_i fd hf
      split at h
      · rename_i cs
        obtain ⟨hp, rfl⟩ := ofOpt_some h
        obtain ⟨L, hL, rfl⟩ := agg_conc hx
        obtain ⟨V, hV, hrun⟩ := part_snd (w := w) hT hL hp
        refine Does.reads hr (Reads.refl _) (V := V) ?_ hV
        have := toList_nth hf
        simp [Instr.field, run_underlying_of hty.under, hd, this, asAgg, hrun]
      · exact (fail_some h).elim
    · exact (fail_some h).elim
  · exact (fail_some h).elim
theorem index_snd (hT : Tab E P) {t : Nat} {x ix v : AV} {X I : Value} (hr : Rel B w0 ρ s.h.get w) (hx : conc ρ x = some X) (hi : conc ρ ix = some I) (h : Run (indexA E t x ix) s v s') : Does P B w0 ρ s s' w (Instr.index t X I) v := by
  unfold indexA at h
  replace h := bnd_some h; obtain ⟨ti, s1, h1, h⟩ := h
  obtain ⟨hti, rfl⟩ := tyOf_some h1
  have hty := hT.ty t ti hti
  split at h
  · rename_i len el cs k n hd
    split at h
    · rename_i hlt
      have hlt := blt_true hlt
      split at h
      · rename_i sz hsz
        obtain ⟨hp, rfl⟩ := ofOpt_some h
        obtain ⟨L, hL, rfl⟩ := agg_conc hx
        simp only [conc] at hi; cases hi
        obtain ⟨V, hV, hrun⟩ := part_snd (w := w) hT hL hp
        refine Does.reads hr (Reads.refl _) (V := V) ?_ hV
        have h2 : (n : Int) < (len : Int) := by omega
        have h3 : ¬ len ≤ n := by omega
        simp [Instr.index, asIntOf, run_underlying_of hty.under, hd, h2, h3, run_sizeA hT hsz, hrun]
      · exact (fail_some h).elim
    · exact (fail_some h).elim
  · rename_i l k n hd
    split at h
    · rename_i b hb
      rw [strictN_eq] at h
      obtain ⟨rfl, rfl⟩ := ret_some h
      simp only [conc] at hi hx; cases hi; cases hx
      refine Does.reads hr (Reads.refl _) (V := .int .u8 b.toNat) ?_ (by simp [conc])
      rw [nth_eq] at hb
      have h2 : (⟨l.toArray⟩ : ByteArray)[n]? = some b := by
        obtain ⟨hlt, hv⟩ := List.getElem?_eq_some_iff.1 hb
        have hs : n < (⟨l.toArray⟩ : ByteArray).size := by show n < l.toArray.size; simpa using hlt
        rw [getElem?_pos (⟨l.toArray⟩ : ByteArray) n hs]
        show some (l.toArray[n]) = some b
        simp [hv]
      simp [Instr.index, asIntOf, run_underlying_of hty.under, hd, h2]
    · exact (fail_some h).elim
  · exact (fail_some h).elim
end
end Go.Aex
