/- shell.Parse: what it answers; words about blocks. -/
import Derived.Test.YtefleapekgbpcaaGreatDoorHShB
import Derived.Deep.Heap
namespace Go.Proofs.YtefleapekgbpcaaGreatDoor.Shl
open Go.RowKit
set_option linter.unusedVariables false
set_option linter.unusedSimpArgs false
def zstep : Value := .agg #[.int .u8 0, .int .i64 0, .int .i64 0, .slice none 0 0]
/-- The words' cells, one by one. -/
theorem Tabs.words {w : World} (h : Tabs w) : w.cell? ⟨0, 0, none⟩ = some (str (word 0)) ∧ w.cell? ⟨0, 1, none⟩ = some (str (word 1)) ∧ w.cell? ⟨0, 2, none⟩ = some (str (word 2)) ∧ w.cell? ⟨0, 3, none⟩ = some (str (word 3)) ∧ w.cell? ⟨0, 4, none⟩ = some (str (word 4)) ∧ w.cell? ⟨0, 5, none⟩ = some (str (word 5)) ∧ w.cell? ⟨0, 6, none⟩ = some (str (word 6)) ∧ w.cell? ⟨0, 7, none⟩ = some (str (word 7)) ∧ w.cell? ⟨0, 8, none⟩ = some (str (word 8)) :=
  ⟨h.wds 0 (by decide), h.wds 1 (by decide), h.wds 2 (by decide), h.wds 3 (by decide), h.wds 4 (by decide), h.wds 5 (by decide), h.wds 6 (by decide), h.wds 7 (by decide), h.wds 8 (by decide)⟩
/-- What Parse answers. -/
def ParsePost (s : List UInt8) (w : World) (e : Ending) (w' : World) : Prop := Below w.heap.size w w' ∧
  if 200 < s.length then e = .returned (.tuple #[zstep, .int .i64 2]) else match parseP s with
    | none => e = .returned (.tuple #[zstep, .int .i64 4])
    | some (k, i, j, m) => ∃ M, e = .returned (.tuple #[.agg #[.int .u8 k, .int .i64 i, .int .i64 j, M], .int .i64 0]) ∧
      if k = 0 then ∃ b c cs t fr, M = .slice (some ⟨b, 0, none⟩) m.length c ∧ w.heap.size ≤ b ∧ w'.heap[b]? = some (.cells cs t fr) ∧ m.length ≤ c ∧ c ≤ cs.size ∧ (fr.1 = fr.2 ∨ cs.size ≤ fr.1) ∧ ∀ k (hk : k < m.length), cs[k]? = some (.int .u8 (m[k].toNat : Int))
      else M = .slice none 0 0
theorem below_box {w w1 : World} {o : Obj} (hb : Below (w.alloc o).heap.size (w.alloc o) w1) : Below w.heap.size w w1 ∧ w1.heap[w.heap.size]? = some o ∧ w.heap.size < w1.heap.size := by
  have hs : (w.alloc o).heap.size = w.heap.size + 1 := by show (w.heap.push o).size = _; simp
  refine ⟨(Below.alloc (Below.refl _ _) (Nat.le_refl _) o).trans (hb.mono (by omega)), ?_, by have := hb.size; omega⟩
  rw [hb.block _ (by omega)]
  show (w.heap.push o)[w.heap.size]? = _
  simp
theorem k_lt {w : World} {g : Nat} {o : Obj} (h : w.heap[g]? = some o) : g < w.heap.size := (Array.getElem?_eq_some_iff.1 h).1
theorem k_below {w w1 : World} {g : Nat} {o : Obj} (h : w.heap[g]? = some o) (hb : Below w.heap.size w w1) : w1.heap[g]? = some o := (hb.block g (k_lt h)).trans h
theorem k_alloc {w : World} {g : Nat} {o : Obj} (h : w.heap[g]? = some o) (o' : Obj) : (w.alloc o').heap[g]? = some o := (Below.heap_alloc w o' g (k_lt h)).trans h
theorem k_put {w : World} {g : Nat} {t : TypeId} {cs cs' : Array Value} (h : w.heap[g]? = some (.cells cs t (0, 0))) (i : Nat) (u : Value) (e : cs.setIfInBounds i u = cs') : (w.setCell ⟨g, i, none⟩ u).heap[g]? = some (.cells cs' t (0, 0)) := by
  subst e
  simp [World.setCell, Array.getElem?_modify, h]
theorem k_put4 {w : World} {g : Nat} {a b c d : Value} {t : TypeId} (h : w.heap[g]? = some (.cells #[a, b, c, d] t (0, 0))) (a' b' c' d' : Value) : ((((w.setCell ⟨g, 0, none⟩ a').setCell ⟨g, 1, none⟩ b').setCell ⟨g, 2, none⟩ c').setCell ⟨g, 3, none⟩ d').heap[g]? = some (.cells #[a', b', c', d'] t (0, 0)) :=
  k_put (cs := #[a', b', c', d]) (k_put (cs := #[a', b', c, d]) (k_put (cs := #[a', b, c, d]) (k_put h 0 a' rfl) 1 b' rfl) 2 c' rfl) 3 d' rfl
theorem k_far {w : World} {g : Nat} {o : Obj} (h : w.heap[g]? = some o) {p : Addr} (hp : g ≠ p.block) (u : Value) : (w.setCell p u).heap[g]? = some o := (Below.heap_setCell w p u g hp).trans h
theorem k_cells {w : World} {g : Nat} {a b c d : Value} {t : TypeId} (h : w.heap[g]? = some (.cells #[a, b, c, d] t (0, 0))) : w.cell? ⟨g, 0, none⟩ = some a ∧ w.cell? ⟨g, 1, none⟩ = some b ∧ w.cell? ⟨g, 2, none⟩ = some c ∧ w.cell? ⟨g, 3, none⟩ = some d ∧ w.frozen? ⟨g, 0, none⟩ = false ∧ w.frozen? ⟨g, 1, none⟩ = false ∧ w.frozen? ⟨g, 2, none⟩ = false ∧ w.frozen? ⟨g, 3, none⟩ = false := by
  simp [World.cell?, World.frozen?, h]
theorem res_ct {P : Program} {fn : Func} {p u : Tmp} {ty : TypeId} (h : fn.results = #[.cell p ty, .tmp u]) (tmps : Array Value) (w : World) (g : Nat) (t : TypeId) (cs : Array Value) (fr : Nat × Nat) (d : TypeDesc)
    (hp : tmps.getD p undef = .pointer (some ⟨g, 0, none⟩)) (hg : w.heap[g]? = some (.cells cs t fr))
    (hu : P.underlying ty = some d) (hd : (match d with | .struct _ | .array _ _ => true | _ => false) = true) (hi : (P.info? ty).map (·.size) = some cs.size) :
    (results fn tmps).run P w = .ok (.tuple #[.agg cs, tmps.getD u undef]) w := by
  have hp' : tmps[p]?.getD undef = .pointer (some ⟨g, 0, none⟩) := by simpa using hp
  simp [results, h, hp', asAddr, run_loadVar_row w g t ty cs fr d hg hu hd hi]
theorem res_step {w : World} {tm : Array Value} {g : Nat} {a b c d : Value} {t : TypeId} (hg : w.heap[g]? = some (.cells #[a, b, c, d] t (0, 0))) (hp : tm.getD 2 undef = .pointer (some ⟨g, 0, none⟩)) :
    (results Tryz.f38 tm).run Tryz.prog w = .ok (.tuple #[.agg #[a, b, c, d], tm.getD 3 undef]) w :=
  res_ct rfl tm w g t _ (0, 0) _ hp hg Tryz.underlying62 rfl (by kernel_rfl)
/-- A word out of the table. -/
theorem idx_words (B : Nat → ByteArray) (k : Nat) (hk : k < 9) (W : World) : (Instr.index 142 (.agg #[.string (B 0), .string (B 1), .string (B 2), .string (B 3), .string (B 4), .string (B 5), .string (B 6), .string (B 7), .string (B 8)]) (.int .i64 k)).run Tryz.prog W = .ok (.string (B k)) W := by
  match k, hk with
  | 0, _ => (show Sem.run _ _ _ = _; kernel_rfl)
  | 1, _ => (show Sem.run _ _ _ = _; kernel_rfl)
  | 2, _ => (show Sem.run _ _ _ = _; kernel_rfl)
  | 3, _ => (show Sem.run _ _ _ = _; kernel_rfl)
  | 4, _ => (show Sem.run _ _ _ = _; kernel_rfl)
  | 5, _ => (show Sem.run _ _ _ = _; kernel_rfl)
  | 6, _ => (show Sem.run _ _ _ = _; kernel_rfl)
  | 7, _ => (show Sem.run _ _ _ = _; kernel_rfl)
  | 8, _ => (show Sem.run _ _ _ = _; kernel_rfl)
end Go.Proofs.YtefleapekgbpcaaGreatDoor.Shl
