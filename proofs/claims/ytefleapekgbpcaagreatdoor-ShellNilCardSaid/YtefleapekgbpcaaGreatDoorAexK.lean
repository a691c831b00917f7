/- The executor's operations hold of the program's machine: slices of slices, make, build, copy, clear, len. -/
import Derived.Test.YtefleapekgbpcaaGreatDoorAexJ
set_option linter.unusedVariables false
set_option linter.unusedSimpArgs false
namespace Go.Aex
open Go.RowKit

/-- An operand that may be left out. -/
def OptC (ρ : Ren) : Option AV → Option Value → Prop
  | none, none => True
  | some a, some A => conc ρ a = some A
  | _, _ => False
section
variable {E : Env} {P : Program} {B : Nat} {w0 w : World} {ρ : Ren} {s s' : St}
theorem boundA_some {x : Option AV} {X : Option Value} {d n : Nat} (h : OptC ρ x X) (hb : boundA x d = some n) : (x = none ∧ X = none ∧ n = d) ∨ (∃ k, X = some (.int k (n : Int)) ∧ x ≠ none) := by
  cases x with
  | none => cases X with
    | none => simp only [boundA] at hb; cases hb; exact .inl ⟨rfl, rfl, rfl⟩
    | some V => exact h.elim
  | some a => cases X with
    | none => exact h.elim
    | some V =>
      cases a <;> simp only [boundA] at hb <;> first | (cases hb; done) | skip
      rename_i k m
      cases m with
      | ofNat m => simp only at hb; cases hb; simp only [OptC, conc] at h; cases h; exact .inr ⟨k, rfl, by simp⟩
      | negSucc m => cases hb
theorem run_sliceBound {k : IntKind} {n y : Nat} (h : n ≤ y) (code : BoundsCode) : (Instr.sliceBound (.int k (n : Int)) y code).run P w = .ok n w := by
  have : (n : Int) ≤ (y : Int) := by omega
  simp [Instr.sliceBound, asIntOf, this]
theorem run_sliceBounds {isSlice : Bool} {len cap l h m : Nat} {lo hi mx : Option AV} {LO HI MX : Option Value} (h1 : OptC ρ lo LO) (h2 : OptC ρ hi HI) (h3 : OptC ρ mx MX) (b1 : boundA lo 0 = some l) (b2 : hiA mx hi len = some h) (b3 : boundA mx cap = some m)
    (l1 : l ≤ h) (l2 : h ≤ m) (l3 : m ≤ cap) : (Instr.sliceBounds isSlice len cap LO HI MX).run P w = .ok (l, h, m) w := by
  have b2' : boundA hi len = some h ∧ (mx ≠ none → hi ≠ none) := by
    unfold hiA at b2
    split at b2
    · cases b2
    · rename_i hh
      refine ⟨b2, fun a b => ?_⟩
      subst b
      cases mx with
      | none => exact a rfl
      | some v => exact hh v rfl rfl
  rcases boundA_some h1 b1 with ⟨rfl, rfl, rfl⟩ | ⟨k1, rfl, n1⟩ <;> rcases boundA_some h2 b2'.1 with ⟨rfl, rfl, rfl⟩ | ⟨k2, rfl, n2⟩ <;> rcases boundA_some h3 b3 with ⟨rfl, rfl, rfl⟩ | ⟨k3, rfl, n3⟩ <;>
    first
    | exact absurd rfl (b2'.2 n3)
    | (cases isSlice <;> simp [Instr.sliceBounds, run_sliceBound, l1, l2, l3])
theorem sliceLit_snd {i o len c sz : Nat} {lo hi mx : Option Nat} {v : AV} {p : Pl} (hp : ρ i = some p) (h : Run (sliceLit i o len c sz lo hi mx) s v s') :
    ∃ l hh m, lo = some l ∧ hi = some hh ∧ mx = some m ∧ l ≤ hh ∧ hh ≤ m ∧ m ≤ c ∧ s = s' ∧ conc ρ v = some (.slice (some (if m = l then ⟨p.blk, p.base + o, none⟩ else ⟨p.blk, p.base + o + l * sz, none⟩)) (hh - l) (m - l)) := by
  unfold sliceLit at h
  split at h
  · rename_i l hh m
    split at h
    · rename_i e1 e2 e3
      have e1 := ble_true e1; have e2 := ble_true e2; have e3 := ble_true e3
      split at h
      · rename_i e4
        have e4 := beq_true e4
        rw [strictN_eq] at h
        obtain ⟨rfl, rfl⟩ := ret_some h
        subst e4
        exact ⟨_, _, _, rfl, rfl, rfl, e1, e2, e3, rfl, by simp [conc, hp]⟩
      · rename_i e4
        have e4 := beq_false e4
        simp only [strictN_eq] at h
        obtain ⟨rfl, rfl⟩ := ret_some h
        exact ⟨_, _, _, rfl, rfl, rfl, e1, e2, e3, rfl, by simp [conc, hp, e4, Nat.add_assoc]⟩
    · exact (fail_some h).elim
  · exact (fail_some h).elim
theorem restOk_cap {i : Nat} {r : Nat × List (Option AV)} {o len sz k : Nat} {p : Pl} (hr : ObjRel ρ i (.row r.1 r.2) w) (hp : ρ i = some p) (h : restOk r o len sz k = true) : len ≤ p.cap - k := by
  unfold restOk at h
  split at h
  · rename_i h1 h2 h3 h4
    have h1 := beq_true h1; have h2 := beq_true h2; have h3 := ble_true h3; have h4 := blt_true h4
    obtain ⟨q, c, t', fr, g1, g2, g3, g4, g5, g6⟩ := hr
    rw [hp] at g1; cases g1
    rw [h1] at g4
    have : (k + len) * sz ≤ p.cap * sz := by rw [Nat.add_mul]; omega
    have := Nat.le_of_mul_le_mul_right this h4
    omega
  · cases h
theorem restOk_row {i : Nat} {r : Nat × List (Option AV)} {o len sz k x : Nat} {p : Pl} (hr : ObjRel ρ i (.row r.1 r.2) w) (hp : ρ i = some p) (h : restOk r o len sz k = true) (hx : o + x * sz ≤ r.2.length) : x ≤ p.cap - k := by
  unfold restOk at h
  split at h
  · rename_i h1 h2 h3 h4
    have h1 := beq_true h1; have h2 := beq_true h2; have h4 := blt_true h4
    obtain ⟨q, c, t', fr, g1, g2, g3, g4, g5, g6⟩ := hr
    rw [hp] at g1; cases g1
    rw [h1] at g4
    have : (k + x) * sz ≤ p.cap * sz := by rw [Nat.add_mul]; omega
    have := Nat.le_of_mul_le_mul_right this h4
    omega
  · cases h
theorem isZ_some {o : Option Nat} (h : isZ o = true) : o = some 0 := by
  cases o with
  | none => cases h
  | some n => simp only [isZ] at h; rw [Nat.eq_of_beq_eq_true h]
theorem slice_snd (hT : Tab E P) {t : Nat} {x v : AV} {X : Value} {lo hi mx : Option AV} {LO HI MX : Option Value} (hr : Rel B w0 ρ s.h.get w) (hx : conc ρ x = some X) (h1 : OptC ρ lo LO) (h2 : OptC ρ hi HI) (h3 : OptC ρ mx MX) (h : Run (sliceA E t x lo hi mx) s v s') :
    Does P B w0 ρ s s' w (Instr.sliceAt t X LO HI MX) v := by
  unfold sliceA at h
  replace h := bnd_some h; obtain ⟨ti, s1, g1, h⟩ := h
  obtain ⟨hti, rfl⟩ := tyOf_some g1
  have hty := hT.ty t ti hti
  split at h
  · -- nil
    rename_i el hd
    split at h
    · rename_i sz0 ha hb hsz0
      replace ha := isZ_some ha; replace hb := isZ_some hb
      obtain ⟨rfl, rfl⟩ := ret_some h
      simp only [conc] at hx; cases hx
      have hm : MX = none := by cases MX with | none => rfl | some _ => exact h3.elim
      subst hm
      have hb2 := run_sliceBounds (P := P) (w := w) (isSlice := true) (len := 0) (cap := 0) h1 h2 h3 ha (by simpa [hiA] using hb) (by simp [boundA]) (Nat.le_refl _) (Nat.le_refl _) (Nat.le_refl _)
      refine Does.reads hr (Reads.refl _) (V := .slice none 0 0) ?_ (by simp [conc])
      have htel := run_sizeA hT hsz0 w
      simp [Instr.sliceAt, run_underlying_of hty.under, hd, Instr.slice, hb2, htel]
    · exact (fail_some h).elim
  · -- an empty one
    rename_i el j o0 o1 k hd
    split at h
    · rename_i sz0 ha hb hsz0
      replace ha := isZ_some ha; replace hb := isZ_some hb
      obtain ⟨rfl, rfl⟩ := ret_some h
      obtain ⟨p, hp, rfl⟩ := eslice_conc hx
      have hm : MX = none := by cases MX with | none => rfl | some _ => exact h3.elim
      subst hm
      have hb2 := run_sliceBounds (P := P) (w := w) (isSlice := true) (len := 0) (cap := p.cap - k) h1 h2 h3 ha (by simpa [hiA] using hb) (by simp [boundA]) (Nat.le_refl _) (Nat.zero_le _) (Nat.le_refl _)
      refine Does.reads hr (Reads.refl _) (V := .slice (some ⟨p.blk, p.base + (if p.cap - k = 0 then o0 else o1), none⟩) 0 (p.cap - k)) ?_ (by simp [conc, hp])
      have htel := run_sizeA hT hsz0 w
      simp [Instr.sliceAt, run_underlying_of hty.under, hd, Instr.slice, hb2, htel, add_off]
    · exact (fail_some h).elim
  · -- a slice
    rename_i el j o len cap hd
    obtain ⟨p, hp, hX⟩ := slice_conc hx
    split at h
    · exact (fail_some h).elim
    · rename_i sz hsz
      have hszr := run_sizeA hT hsz w
      split at h
      · rename_i c
        simp only [capV] at hX
        subst hX
        obtain ⟨l, hh, m, e1, e2, e3, l1, l2, l3, rfl, hv⟩ := sliceLit_snd hp h
        have hb2 := run_sliceBounds (P := P) (w := w) (isSlice := true) (len := len) (cap := c) h1 h2 h3 e1 e2 e3 l1 l2 l3
        refine Does.reads hr (Reads.refl _) ?_ hv
        by_cases e : m = l <;> simp [Instr.sliceAt, run_underlying_of hty.under, hd, Instr.slice, hb2, hszr, add_off, e]
      · rename_i k
        simp only [capV] at hX
        subst hX
        replace h := bnd_some h; obtain ⟨r, s2, g2, h⟩ := h
        obtain ⟨hrow, hrd⟩ := getRow_some g2
        refine Does.trans_reads hrd ?_
        split at h
        · exact (fail_some h).elim
        rename_i hrest
        have hcapl := restOk_cap (hr.objs j _ hrow) hp hrest
        have hr' := hr
        rw [← hrd.1] at hr
        split at h
        · rename_i k3 m
          split at h
          · rename_i hm
            have hm := ble_true hm
            obtain ⟨l, hh, m', e1, e2, e3, l1, l2, l3, rfl, hv⟩ := sliceLit_snd hp h
            cases e3
            have hcap : m ≤ p.cap - k := by omega
            have hb2 := run_sliceBounds (P := P) (w := w) (isSlice := true) (len := len) (cap := p.cap - k) h1 h2 h3 e1 e2 (by simp [boundA]) l1 l2 hcap
            refine Does.reads hr (Reads.refl _) ?_ hv
            by_cases e : m = l <;> simp [Instr.sliceAt, run_underlying_of hty.under, hd, Instr.slice, hb2, hszr, add_off, e]
          · exact (fail_some h).elim
        · exact (fail_some h).elim
        · split at h
          · rename_i l hh ha hb
            have hm : MX = none := by cases MX with | none => rfl | some _ => exact h3.elim
            subst hm
            split at h
            · rename_i g1 g2
              have g1 := ble_true g1; have g2 := ble_true g2
              have hcap : len ≤ p.cap - k := hcapl
              have hb2 := run_sliceBounds (P := P) (w := w) (isSlice := true) (len := len) (cap := p.cap - k) (mx := none) h1 h2 h3 ha (by simpa [hiA] using hb) (by simp [boundA]) g1 (by omega) (Nat.le_refl _)
              split at h
              · rename_i g3
                have g3 := beq_true g3
                subst g3
                obtain rfl : hh = l := by omega
                split at h
                · rename_i g4
                  have g4 := beq_true g4
                  subst g4
                  obtain ⟨rfl, rfl⟩ := ret_some h
                  refine Does.reads hr (Reads.refl _) (V := .slice (some ⟨p.blk, p.base + o, none⟩) 0 (p.cap - k)) ?_ (by simp [conc, hp])
                  simp [Instr.sliceAt, run_underlying_of hty.under, hd, Instr.slice, hb2, hszr, add_off]
                · rename_i g4
                  have g4 := beq_false g4
                  simp only [strictN_eq] at h
                  obtain ⟨rfl, rfl⟩ := ret_some h
                  refine Does.reads hr (Reads.refl _) (V := .slice (some ⟨p.blk, p.base + (if p.cap - (k + hh) = 0 then o else o + hh * sz), none⟩) 0 (p.cap - (k + hh))) ?_ (by simp [conc, hp])
                  by_cases e : p.cap - k = hh
                  · have e' : p.cap - (k + hh) = 0 := by omega
                    rw [e] at hb2
                    simp [Instr.sliceAt, run_underlying_of hty.under, hd, Instr.slice, hb2, hszr, add_off, e, e']
                  · have e' : ¬ p.cap - (k + hh) = 0 := by omega
                    have e2 : p.cap - k - hh = p.cap - (k + hh) := by omega
                    simp [Instr.sliceAt, run_underlying_of hty.under, hd, Instr.slice, hb2, hszr, add_off, e, e', e2, Nat.add_assoc]
              · rename_i g3
                have g3 := beq_false g3
                simp only [strictN_eq] at h
                obtain ⟨rfl, rfl⟩ := ret_some h
                refine Does.reads hr (Reads.refl _) (V := .slice (some ⟨p.blk, p.base + (o + l * sz), none⟩) (hh - l) (p.cap - (k + l))) ?_ (by simp [conc, hp])
                have e : ¬ p.cap - k = l := by omega
                have e2 : p.cap - k - l = p.cap - (k + l) := by omega
                simp [Instr.sliceAt, run_underlying_of hty.under, hd, Instr.slice, hb2, hszr, add_off, e, e2, Nat.add_assoc]
            · rename_i g1 g2
              have g1 := ble_true g1
              split at h
              · rename_i g3 g4
                have g3 := ble_true g3; have g4 := blt_true g4
                have hcap := restOk_row (hr'.objs j _ hrow) hp hrest g3
                have hb2 := run_sliceBounds (P := P) (w := w) (isSlice := true) (len := len) (cap := p.cap - k) (mx := none) h1 h2 h3 ha (by simpa [hiA] using hb) (by simp [boundA]) g1 hcap (Nat.le_refl _)
                simp only [strictN_eq] at h
                obtain ⟨rfl, rfl⟩ := ret_some h
                refine Does.reads hr (Reads.refl _) (V := .slice (some ⟨p.blk, p.base + (o + l * sz), none⟩) (hh - l) (p.cap - (k + l))) ?_ (by simp [conc, hp])
                have e : ¬ p.cap - k = l := by omega
                have e2 : p.cap - k - l = p.cap - (k + l) := by omega
                simp [Instr.sliceAt, run_underlying_of hty.under, hd, Instr.slice, hb2, hszr, add_off, e, e2, Nat.add_assoc]
              · exact (fail_some h).elim
            · exact (fail_some h).elim
          · exact (fail_some h).elim
  · -- an array behind an address
    rename_i len el j o hd
    obtain ⟨p, hp, rfl⟩ := ptr_conc hx
    split at h
    · exact (fail_some h).elim
    · rename_i sz hsz
      have hszr := run_sizeA hT hsz w
      have hm : MX = none := by cases MX with | none => rfl | some _ => exact h3.elim
      subst hm
      obtain ⟨l, hh, m, e1, e2, e3, l1, l2, l3, rfl, hv⟩ := sliceLit_snd hp h
      cases e3
      have hb2 := run_sliceBounds (P := P) (w := w) (isSlice := false) (len := len) (cap := len) (mx := none) h1 h2 h3 e1 (by simpa [hiA] using e2) (by simp [boundA]) l1 l2 l3
      refine Does.reads hr (Reads.refl _) ?_ hv
      by_cases e : len = l
      · subst e
        simp [Instr.sliceAt, run_underlying_of hty.under, hd, Instr.sureAddr, hb2, hszr, add_off]
      simp [Instr.sliceAt, run_underlying_of hty.under, hd, Instr.sureAddr, hb2, hszr, add_off, e]
  · -- a string
    rename_i b hd
    simp only [conc] at hx; cases hx
    have hm : MX = none := by cases MX with | none => rfl | some _ => exact h3.elim
    subst hm
    split at h
    · rename_i l hh ha hb
      split at h
      · rename_i g1 g2
        have g1 := ble_true g1; have g2 := ble_true g2
        obtain ⟨rfl, rfl⟩ := ret_some h
        have hb2 := run_sliceBounds (P := P) (w := w) (isSlice := false) (len := b.length) (cap := b.length) (mx := none) h1 h2 h3 ha (by simpa [hiA] using hb) (by simp [boundA]) g1 g2 (Nat.le_refl _)
        refine Does.reads hr (Reads.refl _) (V := .string ((⟨b.toArray⟩ : ByteArray).extract l hh)) ?_ ?_
        · have hsz : (⟨b.toArray⟩ : ByteArray).size = b.length := by simp [ByteArray.size]
          simp [Instr.sliceAt, run_underlying_of hty.under, hd, Instr.slice, hsz, hb2]
        · simp only [conc]
          congr 2
          apply ByteArray.ext
          simp [ByteArray.data_extract]
      · exact (fail_some h).elim
    · exact (fail_some h).elim
  · exact (fail_some h).elim
end
end Go.Aex
