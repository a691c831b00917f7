/- The executor's operations hold of the program's machine: new memory, structs, slices. -/
import Derived.Test.YtefleapekgbpcaaGreatDoorAexE
set_option linter.unusedVariables false
set_option linter.unusedSimpArgs false
namespace Go.Aex
open Go.RowKit

/-- What a step of the executor says of a reckoning of the machine's. -/
def Does (P : Program) (B : Nat) (w0 : World) (ρ : Ren) (s s' : St) (w : World) (sem : Sem Value) (v : AV) : Prop :=
  ∃ ρ' V w', sem.run P w = .ok V w' ∧ Ext ρ ρ' s.nx s'.nx ∧ Rel B w0 ρ' s'.h.get w' ∧ conc ρ' v = some V
theorem Does.reads {P : Program} {B : Nat} {w0 w : World} {ρ : Ren} {s s' : St} {sem : Sem Value} {v : AV} {V : Value} (hr : Rel B w0 ρ s.h.get w) (hs : Reads s s') (hrun : sem.run P w = .ok V w) (hv : conc ρ v = some V) : Does P B w0 ρ s s' w sem v :=
  ⟨ρ, V, w, hrun, Ext.refl _ _ _, by rw [hs.1]; exact hr, hv⟩

/-! ### new rows -/
theorem somes_get : ∀ (l : List AV) (k : Nat) (v : AV), (somes l)[k]? = some (some v) → l[k]? = some v
  | [], k, v, h => by simp [somes] at h
  | a :: l, 0, v, h => by simpa [somes] using h
  | a :: l, k + 1, v, h => by simpa using somes_get l k v (by simpa [somes] using h)
theorem somes_length (l : List AV) : (somes l).length = l.length := by induction l with | nil => rfl | cons a l ih => simp [somes, ih]
theorem heap_alloc_new (w : World) (o : Obj) : (w.alloc o).heap[w.heap.size]? = some o := by
  show (w.heap.push o)[w.heap.size]? = some o
  simp
theorem heap_alloc_old (w : World) (o : Obj) (b : Nat) (h : b < w.heap.size) : (w.alloc o).heap[b]? = w.heap[b]? := by
  show (w.heap.push o)[b]? = _
  rw [Array.getElem?_push, if_neg (by omega)]
theorem Rel.alloc {B : Nat} {w0 w : World} {ρ : Ren} {h : Hp} (hr : Rel B w0 ρ h w) {n : Nat} (hn : ρ n = none) (X : Obj) (base cap : Nat) (o : AObj)
    (ho : ObjRel (setR ρ n ⟨w.heap.size, base, cap⟩) n o (w.alloc X)) : Rel B w0 (setR ρ n ⟨w.heap.size, base, cap⟩) (Aex.upd h n o) (w.alloc X) := by
  refine hr.add hn (setR_le _ hn) (setR_same _ _ _) (fun k hk => setR_other _ _ hk) ?_ ?_ rfl rfl rfl (by simp) ?_ ho
  · intro i q hl hq
    have := hr.blk_lt hl hq
    simp only; omega
  · have := hr.bel.size; have := hr.hB; simp only; omega
  · intro b _ hlt; exact heap_alloc_old _ _ _ hlt
theorem alloc_row {B : Nat} {w0 w : World} {ρ : Ren} {h : Hp} (hr : Rel B w0 ρ h w) {n : Nat} (hn : ρ n = none) {e cap : Nat} {l : List AV} {L : List Value} (hL : concL ρ l = some L) (hc : cap * e = l.length) (t : TypeId) :
    Rel B w0 (setR ρ n ⟨w.heap.size, 0, cap⟩) (Aex.upd h n (.row e (somes l))) (w.alloc (.cells L.toArray t)) := by
  refine hr.alloc hn _ _ _ _ ⟨_, _, _, _, setR_same _ _ _, heap_alloc_new _ _, ?_, ?_, Or.inl rfl, ?_⟩
  · simp [hc, concL_length hL]
  · simp [somes_length, hc]
  · intro k v hk
    obtain ⟨V, hV, hg⟩ := concL_get hL k v (somes_get l k v hk)
    exact ⟨V, conc_mono (setR_le _ hn) _ _ hV, by simpa using hg⟩
theorem ext_new {ρ : Ren} {n : Nat} (p : Pl) (hn : ρ n = none) : Ext ρ (setR ρ n p) n (n + 1) :=
  ⟨setR_le _ hn, fun k hk => setR_other _ _ (by omega)⟩
theorem newRowA_some {e i : Nat} {l : List AV} {s s' : St} (h : Run (newRowA e l) s i s') : i = s.nx ∧ s'.h = s.h.set s.nx (.row e (somes l)) ∧ s'.nx = s.nx + 1 := by
  obtain ⟨a, b, c, d⟩ := newO_some h; exact ⟨a, b, c⟩
theorem box_snd {P : Program} {B : Nat} {w0 w : World} {ρ : Ren} {s s' : St} {x v : AV} {X : Value} (el : TypeId) (hr : Rel B w0 ρ s.h.get w) (hfree : ∀ k, s.nx ≤ k → k < s'.nx → ρ k = none)
    (hx : conc ρ x = some X) (h : Run (boxA x) s v s') : Does P B w0 ρ s s' w (Instr.box el X) v := by
  unfold boxA at h
  cases hone : allOne (cellsOf x) with
  | true =>
    simp only [hone] at h
    obtain ⟨i, s1, h1, h2⟩ := bnd_some h
    obtain ⟨rfl, hh, hnx⟩ := newRowA_some h1
    obtain ⟨rfl, rfl⟩ := ret_some h2
    have hn := hfree s.nx (Nat.le_refl _) (by omega)
    have hL := cells_conc hx hone
    refine ⟨setR ρ s.nx ⟨w.heap.size, 0, (cellsOf x).length⟩, .pointer (some ⟨w.heap.size, 0, none⟩), w.alloc (.cells X.cells.toList.toArray el), ?_, by rw [hnx]; exact ext_new _ hn, ?_, ?_⟩
    · simp [Instr.box, newVar, newRow]
    · rw [hh, get_set_upd]
      exact alloc_row hr hn hL (by simp) el
    · simp [conc, setR_same]
  | false => simp only [hone] at h; exact (fail_some h).elim
theorem conc_zero_cells {ρ : Ren} {P : Program} {t : Nat} {ti : TyI} (h : TyOk P t ti) {z : Value} (hz : conc ren0 ti.zero = some z) : concL ρ (cellsOf ti.zero) = some z.cells.toList :=
  cells_conc (conc_ren0 hz) h.zone
theorem alloc_snd {E : Env} {P : Program} (hT : Tab E P) {B : Nat} {w0 w : World} {ρ : Ren} {s s' : St} {el : Nat} {ti : TyI} {v : AV} (hti : E.ty el = some ti) (hr : Rel B w0 ρ s.h.get w) (hfree : ∀ k, s.nx ≤ k → k < s'.nx → ρ k = none)
    (h : Run (boxA ti.zero) s v s') : Does P B w0 ρ s s' w (Instr.alloc el true (.tuple #[])) v := by
  have hty := hT.ty el ti hti
  obtain ⟨z, hz, hzr⟩ := run_zeroValue_of (w := w) hty
  obtain ⟨ρ', V, w', h1, h2, h3, h4⟩ := box_snd (P := P) el hr hfree (conc_ren0 hz) h
  refine ⟨ρ', V, w', ?_, h2, h3, h4⟩
  rw [← h1]
  simp [Instr.alloc, Instr.box, hzr]
end Go.Aex
