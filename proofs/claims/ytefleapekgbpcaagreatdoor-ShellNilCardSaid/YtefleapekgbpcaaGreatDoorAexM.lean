/- The executor's operations hold of the program's machine: numbers, equality. -/
import Derived.Test.YtefleapekgbpcaaGreatDoorAexL
import Derived.Laws.StructEq
import Derived.ChangeKeysEq
set_option linter.unusedVariables false
set_option linter.unusedSimpArgs false
namespace Go.Aex
open Go.RowKit
theorem beqK_eq {a b : IntKind} (h : beqK a b = true) : a = b := by cases a <;> cases b <;> first | rfl | (simp [beqK] at h)
theorem natBeq_iff (a b : Nat) : Nat.beq a b = true ↔ a = b := ⟨beq_true, fun e => by subst e; simp⟩
theorem beqI_eq (a b : Int) : beqI a b = (a == b) := by
  rw [Bool.eq_iff_iff, beq_iff_eq]
  cases a <;> cases b <;> simp only [beqI]
  · rw [natBeq_iff]; simp only [Int.ofNat_eq_natCast]; omega
  · simp
  · simp
  · rw [natBeq_iff]; simp
theorem ltI_eq (a b : Int) : ltI a b = decide (a < b) := by
  rw [Bool.eq_iff_iff, decide_eq_true_eq]
  cases a <;> cases b <;> simp only [ltI, Int.ofNat_eq_natCast]
  · exact ⟨fun h => by have := blt_true h; omega, fun h => Nat.ble_eq_true_of_le (by omega)⟩
  · constructor
    · intro h; cases h
    · intro h; omega
  · constructor
    · intro _; omega
    · intro _; trivial
  · exact ⟨fun h => by have := blt_true h; omega, fun h => Nat.ble_eq_true_of_le (by omega)⟩
theorem wrap_fits (k : IntKind) (m : Nat) (h : m ≤ maxOf k) : k.wrap (m : Int) = m := by
  cases k <;> simp only [maxOf] at h <;> simp only [IntKind.wrap, IntKind.bits, IntKind.signed] <;> simp <;> omega
theorem wrapI_eq (k : IntKind) (n : Int) : wrapI k n = k.wrap n := by
  cases n with
  | negSucc m => rfl
  | ofNat m =>
    simp only [wrapI]
    split
    · rename_i h; exact (wrap_fits k m (ble_true h)).symm
    · rfl
theorem bool_eq {β : Type} (b : Bool) (f : AV → β) : bool b f = f (.bool b) := by cases b <;> rfl
theorem int_eq (k : IntKind) (n : Int) : int k n = ret (.int k n) := by unfold int; rw [strictI_eq]
theorem beqB_eq : ∀ (a b : List UInt8), beqB a b = (a == b)
  | [], [] => rfl
  | [], _ :: _ => rfl
  | _ :: _, [] => rfl
  | a :: x, b :: y => by
    simp only [beqB]
    split
    · rename_i h
      have h := beq_true h
      have e : a = b := UInt8.toNat_inj.1 h
      subst e
      rw [beqB_eq x y]; simp
    · rename_i h
      have h := beq_false h
      have e : a ≠ b := fun e => h (by rw [e])
      simp [e]
section
variable {E : Env} {P : Program} {B : Nat} {w0 w : World} {ρ : Ren} {s s' : St}
theorem int_conc {k : IntKind} {n : Int} {X : Value} (h : conc ρ (.int k n) = some X) : X = .int k n := by simp only [conc] at h; cases h; rfl
theorem str_conc {l : List UInt8} {X : Value} (h : conc ρ (.str l) = some X) : X = .string ⟨l.toArray⟩ := by simp only [conc] at h; cases h; rfl
theorem bool_conc {b : Bool} {X : Value} (h : conc ρ (.bool b) = some X) : X = .bool b := by simp only [conc] at h; cases h; rfl
theorem eq1_snd {d : TypeDesc} {t D : Nat} {x y : AV} {X Y : Value} {b : Bool} (hd : P.underlying t = some d) (hx : conc ρ x = some X) (hy : conc ρ y = some Y) (h : eq1 d x y = some b) : (Op.equalIn (D + 1) t X Y).run P w = .ok b w := by
  unfold eq1 at h
  split at h
  case h_1 =>
    rename_i a b'
    obtain rfl := bool_conc hx; obtain rfl := bool_conc hy
    rw [run_equalIn_bool' w D t _ _ hd]
    cases a <;> cases b' <;> simp at h <;> subst h <;> rfl
  case h_2 =>
    split at h
    · rename_i hk
      obtain rfl := int_conc hx; obtain rfl := int_conc hy
      obtain rfl := beqK_eq hk
      cases h
      rw [run_equalIn_int w D t _ _ _ _ hd, beqI_eq]
    · cases h
  case h_3 =>
    obtain rfl := str_conc hx; obtain rfl := str_conc hy
    cases h
    rw [run_equalIn_string w D t _ _ hd, beqB_eq]
    simp [ByteArray.toList_eq]
  all_goals first
    | (cases h; done)
    | (cases h
       first
       | (obtain ⟨p, hp, rfl⟩ := ptr_conc hx; simp only [conc] at hy; cases hy; simp [Op.equalIn, run_underlying_of hd])
       | (obtain ⟨p, hp, rfl⟩ := ptr_conc hy; simp only [conc] at hx; cases hx; simp [Op.equalIn, run_underlying_of hd])
       | (obtain ⟨p, hp, hX⟩ := slice_conc hx; subst hX; simp only [conc] at hy; cases hy; simp [Op.equalIn, run_underlying_of hd])
       | (obtain ⟨p, hp, hX⟩ := slice_conc hy; subst hX; simp only [conc] at hx; cases hx; simp [Op.equalIn, run_underlying_of hd])
       | (obtain ⟨p, hp, hX⟩ := eslice_conc hx; subst hX; simp only [conc] at hy; cases hy; simp [Op.equalIn, run_underlying_of hd])
       | (obtain ⟨p, hp, hX⟩ := eslice_conc hy; subst hX; simp only [conc] at hx; cases hx; simp [Op.equalIn, run_underlying_of hd])
       | (simp only [conc] at hx hy; cases hx; cases hy; simp [Op.equalIn, run_underlying_of hd])
       | (simp only [conc] at hx hy
          cases hy
          rename_i i
          cases hp : ρ i with
          | none => rw [hp] at hx; cases hx
          | some p => rw [hp] at hx; cases hx; simp [Op.equalIn, run_underlying_of hd])
       | (simp only [conc] at hx hy
          cases hx
          rename_i i
          cases hp : ρ i with
          | none => rw [hp] at hy; cases hy
          | some p => rw [hp] at hy; cases hy; simp [Op.equalIn, run_underlying_of hd])
       | (simp only [conc] at hx hy
          cases hy
          split at hx
          · cases hx; simp [Op.equalIn, run_underlying_of hd]
          · cases hx)
       | (simp only [conc] at hx hy
          cases hx
          split at hy
          · cases hy; simp [Op.equalIn, run_underlying_of hd]
          · cases hy))
theorem eqIt_snd (hT : Tab E P) {f : AV → AV → Option Bool} {D el sz : Nat} {xs ys : List AV} {XS YS : List Value} (hf : ∀ u v U V b, conc ρ u = some U → conc ρ v = some V → f u v = some b → (Op.equalIn D el U V).run P w = .ok b w) (hx : concL ρ xs = some XS) (hy : concL ρ ys = some YS) :
    ∀ (is : List Nat) (b : Bool), eqIt E f el sz xs ys is = some b → (Op.eqItems D el sz XS.toArray YS.toArray is).run P w = .ok b w
  | [], b, h => by simp only [eqIt] at h; cases h; simp [Op.eqItems]
  | i :: is, b, h => by
    simp only [eqIt] at h
    split at h
    · rename_i u v hu hv
      obtain ⟨U, hU, hur⟩ := part_snd (w := w) hT hx hu
      obtain ⟨V, hV, hvr⟩ := part_snd (w := w) hT hy hv
      split at h
      · rename_i he
        have h1 := hf u v U V true hU hV he
        have h2 := eqIt_snd hT hf hx hy is b h
        simp [Op.eqItems, hur, hvr, h1, h2]
      · rename_i he
        have hb : b = false := by
          cases hb : b with
          | false => rfl
          | true => rw [hb] at h; exact absurd h he
        subst hb
        have h1 := hf u v U V false hU hV h
        simp [Op.eqItems, hur, hvr, h1]
    · cases h
mutual
theorem eqT_snd (hT : Tab E P) : ∀ (d t : Nat) (x y : AV) (X Y : Value) (b : Bool), conc ρ x = some X → conc ρ y = some Y → eqT E d t x y = some b → ∀ D, d ≤ D → (Op.equalIn D t X Y).run P w = .ok b w
  | 0, t, x, y, X, Y, b, hx, hy, h, D, hD => by simp only [eqT] at h; cases h
  | d + 1, t, x, y, X, Y, b, hx, hy, h, D, hD => by
    obtain ⟨D, rfl⟩ : ∃ k, D = k + 1 := ⟨D - 1, by omega⟩
    simp only [eqT] at h
    split at h
    · cases h
    · rename_i ti hti
      have hty := hT.ty t ti hti
      split at h
      · rename_i fs hd
        split at h
        · rename_i xs ys hq
          obtain ⟨XS, hXS, rfl⟩ := agg_conc hx
          obtain ⟨YS, hYS, rfl⟩ := agg_conc hy
          obtain ⟨e1, e2, e3⟩ := hty.eq hq
          have hu : P.underlying t = some (.struct (P.fieldsOf t)) := by
            have := hty.under
            rw [hd] at this
            simp [Program.fieldsOf, this]
          have hf : P.fieldsOf t = fs := by
            have := hty.under
            rw [hd] at this
            simp [Program.fieldsOf, this]
          rw [run_equalIn_struct w D t _ _ hu e1, hf]
          exact eqF_snd hT d fs.toList xs ys XS YS b (e3 fs hd) hXS hYS h D (by omega)
        · cases h
      · rename_i n el hd
        split at h
        · rename_i xs ys sz hq hsz
          obtain ⟨XS, hXS, rfl⟩ := agg_conc hx
          obtain ⟨YS, hYS, rfl⟩ := agg_conc hy
          obtain ⟨te, hte, rfl⟩ := sizeA_some hsz
          obtain ⟨i, z, hi, hisz, _, _, _⟩ := (hT.ty el te hte).info
          have hu : P.underlying t = some (.array n el) := by rw [hty.under, hd]
          have hc : P.cellsOf el = te.size := by simp [Program.cellsOf, hi, hisz]
          rw [run_equalIn_array w D XS.toArray YS.toArray hu hi, hc]
          exact eqIt_snd hT (fun u v U V b' hU hV he => eqT_snd hT d el u v U V b' hU hV he D (by omega)) hXS hYS _ b h
        · cases h
      · exact eq1_snd hty.under hx hy h
theorem eqF_snd (hT : Tab E P) : ∀ (d : Nat) (fs : List Field) (xs ys : List AV) (XS YS : List Value) (b : Bool), (∀ f ∈ fs, f.name ≠ "_") → concL ρ xs = some XS → concL ρ ys = some YS → eqF E d fs xs ys = some b → ∀ D, d ≤ D → (Op.eqFields D XS.toArray YS.toArray fs).run P w = .ok b w
  | 0, fs, xs, ys, XS, YS, b, hn, hx, hy, h, D, hD => by simp only [eqF] at h; cases h
  | d + 1, [], xs, ys, XS, YS, b, hn, hx, hy, h, D, hD => by simp only [eqF] at h; cases h; simp [Op.eqFields]
  | d + 1, f :: fs, xs, ys, XS, YS, b, hn, hx, hy, h, D, hD => by
    simp only [eqF] at h
    split at h
    · rename_i u v hu hv
      obtain ⟨U, hU, hur⟩ := part_snd (w := w) hT hx hu
      obtain ⟨V, hV, hvr⟩ := part_snd (w := w) hT hy hv
      have hne := hn f (List.mem_cons_self ..)
      split at h
      · rename_i he
        have h1 := eqT_snd hT d f.type u v U V true hU hV he D (by omega)
        have h2 := eqF_snd hT d fs xs ys XS YS b (fun g hg => hn g (List.mem_cons_of_mem _ hg)) hx hy h D (by omega)
        simp [Op.eqFields, hne, hur, hvr, h1, h2]
      · rename_i he
        have hb : b = false := by
          cases hb : b with
          | false => rfl
          | true => rw [hb] at h; exact absurd h he
        subst hb
        have h1 := eqT_snd hT d f.type u v U V false hU hV h D (by omega)
        simp [Op.eqFields, hne, hur, hvr, h1]
    · cases h
end
theorem run_eqGuard_off {op : BinOp} {t : Nat} {x y : Operand} {A Bv : Value} (h : op ≠ .eql ∧ op ≠ .neq) : (eqGuard op t x y A Bv).run P w = .ok () w := by
  cases op <;> simp [eqGuard] <;> simp_all
theorem conc_agg {u : AV} {cs : Array Value} (h : conc ρ u = some (.agg cs)) : (∃ l, u = .agg l) ∨ (∃ v, u = .raw v) := by
  cases u <;> first
    | exact .inl ⟨_, rfl⟩
    | exact .inr ⟨_, rfl⟩
    | (simp [conc] at h; done)
    | (rename_i cap; cases cap <;> simp [conc] at h; done)
    | (simp only [conc] at h; split at h <;> simp at h)
theorem conc_nil {u : AV} (h : conc ρ u = some .nilIface) : u = .nilface ∨ (∃ v, u = .raw v) := by
  cases u <;> first
    | exact .inl rfl
    | exact .inr ⟨_, rfl⟩
    | (simp [conc] at h; done)
    | (rename_i cap; cases cap <;> simp [conc] at h; done)
    | (simp only [conc] at h; split at h <;> simp at h)
/-- What stands ahead of a comparison lets it by. -/
theorem run_eqGuard_on (hT : Tab E P) {op : BinOp} {t : Nat} {x y : Operand} {u : AV} {A Bv : Value} (hu : conc ρ u = some A) (h : eqOk E t u = true) : (eqGuard op t x y A Bv).run P w = .ok () w := by
  unfold eqOk at h
  unfold eqGuard
  split at h
  · rename_i l
    obtain ⟨L, hL, rfl⟩ := agg_conc hu
    split at h
    · rename_i ti hti
      obtain ⟨e1, e2, e3⟩ := (hT.ty t ti hti).eq h
      cases Bv <;> cases op <;> simp [e2]
    · cases h
  · cases h
  · cases h
  · cases h
  · rename_i h1 h2 h3 h4
    have key : (∀ cs, A ≠ .agg cs) ∧ A ≠ .nilIface := by
      refine ⟨fun cs e => ?_, fun e => ?_⟩
      · subst e
        rcases conc_agg hu with ⟨l, rfl⟩ | ⟨v, rfl⟩
        · exact h1 _ rfl
        · exact h4 _ rfl
      · subst e
        rcases conc_nil hu with rfl | ⟨v, rfl⟩
        · exact h2 rfl
        · exact h4 _ rfl
    cases A <;> first | exact absurd rfl (key.1 _) | exact absurd rfl key.2 | (cases op <;> simp)
theorem and_lt {k : IntKind} {a b : Nat} (ha : a ≤ maxOf k) : a &&& b ≤ maxOf k := Nat.le_trans Nat.and_le_left ha
theorem maxOf_pow (k : IntKind) : ∃ n, maxOf k = 2 ^ n - 1 ∧ 2 ^ n ≤ 2 ^ k.bits := by
  cases k
  · exact ⟨7, by decide, by decide⟩
  · exact ⟨15, by decide, by decide⟩
  · exact ⟨31, by decide, by decide⟩
  · exact ⟨63, by decide, by decide⟩
  · exact ⟨8, by decide, by decide⟩
  · exact ⟨16, by decide, by decide⟩
  · exact ⟨32, by decide, by decide⟩
  · exact ⟨64, by decide, by decide⟩
theorem or_le {k : IntKind} {a b : Nat} (ha : a ≤ maxOf k) (hb : b ≤ maxOf k) : a ||| b ≤ maxOf k := by
  obtain ⟨n, hn, _⟩ := maxOf_pow k
  have hp : 0 < 2 ^ n := Nat.two_pow_pos n
  have := Nat.or_lt_two_pow (x := a) (y := b) (n := n) (by omega) (by omega)
  omega
theorem xor_le {k : IntKind} {a b : Nat} (ha : a ≤ maxOf k) (hb : b ≤ maxOf k) : a ^^^ b ≤ maxOf k := by
  obtain ⟨n, hn, _⟩ := maxOf_pow k
  have hp : 0 < 2 ^ n := Nat.two_pow_pos n
  have := Nat.xor_lt_two_pow (x := a) (y := b) (n := n) (by omega) (by omega)
  omega
theorem ofInt_nat {k : IntKind} {a : Nat} (ha : a ≤ maxOf k) : (BitVec.ofInt k.bits (a : Int)).toNat = a := by
  obtain ⟨n, hn, hle⟩ := maxOf_pow k
  have hp : 0 < 2 ^ n := Nat.two_pow_pos n
  simp only [BitVec.ofInt_natCast, BitVec.toNat_ofNat]
  exact Nat.mod_eq_of_lt (by omega)
theorem fitsN_nat {k : IntKind} {x : Int} (h : fitsN k x = true) : ∃ a : Nat, x = a ∧ a ≤ maxOf k := by
  cases x with
  | ofNat a => simp only [fitsN] at h; exact ⟨a, rfl, ble_true h⟩
  | negSucc a => simp [fitsN] at h
theorem bits_snd {op : BinOp} {k : IntKind} {x y r : Int} (hx : fitsN k x = true) (hy : fitsN k y = true) (h : bitsA op k x y = some r) : (Op.intBits op k x y).run P w = .ok (.int k r) w := by
  obtain ⟨a, rfl, ha⟩ := fitsN_nat hx
  obtain ⟨b, rfl, hb⟩ := fitsN_nat hy
  unfold bitsA at h
  split at h
  · rename_i a' b' e1 e2
    cases h
    cases e1; cases e2
    have e : (BitVec.ofInt k.bits (a : Int) &&& BitVec.ofInt k.bits (b : Int)).toNat = a &&& b := by rw [BitVec.toNat_and, ofInt_nat ha, ofInt_nat hb]
    simp only [Op.intBits]
    rw [e, wrap_fits k _ (and_lt ha)]
    rfl
  · rename_i a' b' e1 e2
    cases h
    cases e1; cases e2
    have e : (BitVec.ofInt k.bits (a : Int) ||| BitVec.ofInt k.bits (b : Int)).toNat = a ||| b := by rw [BitVec.toNat_or, ofInt_nat ha, ofInt_nat hb]
    simp only [Op.intBits]
    rw [e, wrap_fits k _ (or_le ha hb)]
    rfl
  · rename_i a' b' e1 e2
    cases h
    cases e1; cases e2
    have e : (BitVec.ofInt k.bits (a : Int) ^^^ BitVec.ofInt k.bits (b : Int)).toNat = a ^^^ b := by rw [BitVec.toNat_xor, ofInt_nat ha, ofInt_nat hb]
    simp only [Op.intBits]
    rw [e, wrap_fits k _ (xor_le ha hb)]
    rfl
  · rename_i a' b' e1 e2
    cases h
    cases e1; cases e2
    have e0 : (BitVec.ofInt k.bits (a : Int) &&& ~~~BitVec.ofInt k.bits (b : Int)) = (BitVec.ofInt k.bits (a : Int) ^^^ (BitVec.ofInt k.bits (a : Int) &&& BitVec.ofInt k.bits (b : Int))) := by
      generalize BitVec.ofInt k.bits (a : Int) = u
      generalize BitVec.ofInt k.bits (b : Int) = v
      ext i hi
      simp only [BitVec.getElem_and, BitVec.getElem_not, BitVec.getElem_xor]
      cases u[i] <;> cases v[i] <;> rfl
    have e : (BitVec.ofInt k.bits (a : Int) &&& ~~~BitVec.ofInt k.bits (b : Int)).toNat = a ^^^ (a &&& b) := by rw [e0, BitVec.toNat_xor, BitVec.toNat_and, ofInt_nat ha, ofInt_nat hb]
    simp only [Op.intBits]
    rw [e, wrap_fits k _ (xor_le ha (and_lt ha))]
    rfl
  · cases h
theorem ret_does {α : Type} {sem : Sem Value} {v v' : AV} {V : Value} (hr : Rel B w0 ρ s.h.get w) (h : Run (ret v') s v s') (hrun : sem.run P w = .ok V w) (hv : conc ρ v' = some V) : Does P B w0 ρ s s' w sem v := by
  obtain ⟨rfl, rfl⟩ := ret_some h
  exact Does.reads hr (Reads.refl _) hrun hv
theorem conc_int {u : AV} {k : IntKind} {n : Int} (h : conc ρ u = some (.int k n)) : u = .int k n ∨ (∃ v, u = .raw v) := by
  cases u <;> first
    | exact .inr ⟨_, rfl⟩
    | (simp [conc] at h; done)
    | (simp [conc] at h; obtain ⟨rfl, rfl⟩ := h; exact .inl rfl)
    | (rename_i cap; cases cap <;> simp [conc] at h; done)
    | (simp only [conc] at h; split at h <;> simp at h)
theorem conc_str {u : AV} {b : ByteArray} (h : conc ρ u = some (.string b)) : (∃ l, u = .str l) ∨ (∃ v, u = .raw v) := by
  cases u <;> first
    | exact .inr ⟨_, rfl⟩
    | exact .inl ⟨_, rfl⟩
    | (simp [conc] at h; done)
    | (rename_i cap; cases cap <;> simp [conc] at h; done)
    | (simp only [conc] at h; split at h <;> simp at h)
theorem conc_float {u : AV} {k : FloatKind} {n : Nat} (h : conc ρ u = some (.float k n)) : (∃ v, u = .raw v) := by
  cases u <;> first
    | exact ⟨_, rfl⟩
    | (simp [conc] at h; done)
    | (rename_i cap; cases cap <;> simp [conc] at h; done)
    | (simp only [conc] at h; split at h <;> simp at h)
theorem conc_complex {u : AV} {k : FloatKind} {n m : Nat} (h : conc ρ u = some (.complex k n m)) : (∃ v, u = .raw v) := by
  cases u <;> first
    | exact ⟨_, rfl⟩
    | (simp [conc] at h; done)
    | (rename_i cap; cases cap <;> simp [conc] at h; done)
    | (simp only [conc] at h; split at h <;> simp at h)
theorem eqT_raw {d t : Nat} {v : Value} {y : AV} : eqT E d t (.raw v) y = none := by
  cases d with
  | zero => rfl
  | succ d =>
    simp only [eqT]
    split
    · rfl
    · split
      · rfl
      · rfl
      · unfold eq1; split <;> first | rfl | (rename_i e _; cases e) | (rename_i e; cases e)
theorem eqT_raw_r {d t : Nat} {v : Value} {x : AV} : eqT E d t x (.raw v) = none := by
  cases d with
  | zero => rfl
  | succ d =>
    simp only [eqT]
    split
    · rfl
    · split
      · first | rfl | (split <;> first | rfl | (rename_i e _ _; cases e) | (rename_i e _; cases e) | (rename_i e; cases e))
      · first | rfl | (split <;> first | rfl | (rename_i e _ _ _; cases e) | (rename_i e _ _; cases e) | (rename_i e _; cases e) | (rename_i e; cases e))
      · unfold eq1; split <;> first | rfl | (rename_i e; cases e) | (rename_i e _; cases e)
theorem binOp_eql {t : Nat} {X Y : Value} (h1 : ∀ k a k' b, ¬(X = .int k a ∧ Y = .int k' b)) (h2 : ∀ a b, ¬(X = .string a ∧ Y = .string b)) (h3 : ∀ k a k' b, ¬(X = .float k a ∧ Y = .float k' b)) (h4 : ∀ k a c k' b d, ¬(X = .complex k a c ∧ Y = .complex k' b d)) :
    binOp .eql t X Y = (do pure (.bool (← Op.equal t X Y)) : Sem Value) ∧ binOp .neq t X Y = (do pure (.bool (!(← Op.equal t X Y))) : Sem Value) := by
  cases X <;> cases Y <;> first
    | exact ⟨rfl, rfl⟩
    | exact absurd ⟨rfl, rfl⟩ (h1 _ _ _ _)
    | exact absurd ⟨rfl, rfl⟩ (h2 _ _)
    | exact absurd ⟨rfl, rfl⟩ (h3 _ _ _ _)
    | exact absurd ⟨rfl, rfl⟩ (h4 _ _ _ _ _ _)
theorem eqT_shapes {d t : Nat} {x y : AV} {X Y : Value} {b : Bool} (hx : conc ρ x = some X) (hy : conc ρ y = some Y) (h : eqT E d t x y = some b) (n1 : ∀ k a k' b, x = .int k a → y = .int k' b → False) (n2 : ∀ a b, x = .str a → y = .str b → False) :
    binOp .eql t X Y = (do pure (.bool (← Op.equal t X Y)) : Sem Value) ∧ binOp .neq t X Y = (do pure (.bool (!(← Op.equal t X Y))) : Sem Value) := by
  have hnr : ∀ v, x ≠ .raw v := fun v e => by subst e; rw [eqT_raw] at h; cases h
  have hnr2 : ∀ v, y ≠ .raw v := fun v e => by subst e; rw [eqT_raw_r] at h; cases h
  refine binOp_eql (fun k a k' b e => ?_) (fun a b e => ?_) (fun k a k' b e => ?_) (fun k a c k' b d e => ?_)
  · obtain ⟨rfl, rfl⟩ := e
    rcases conc_int hx with rfl | ⟨v, rfl⟩
    · rcases conc_int hy with rfl | ⟨v, rfl⟩
      · exact n1 _ _ _ _ rfl rfl
      · exact hnr2 _ rfl
    · exact hnr _ rfl
  · obtain ⟨rfl, rfl⟩ := e
    rcases conc_str hx with ⟨l, rfl⟩ | ⟨v, rfl⟩
    · rcases conc_str hy with ⟨m, rfl⟩ | ⟨v, rfl⟩
      · exact n2 _ _ rfl rfl
      · exact hnr2 _ rfl
    · exact hnr _ rfl
  · obtain ⟨rfl, rfl⟩ := e
    obtain ⟨v, rfl⟩ := conc_float hx
    exact hnr _ rfl
  · obtain ⟨rfl, rfl⟩ := e
    obtain ⟨v, rfl⟩ := conc_complex hx
    exact hnr _ rfl
/-- The operation behind its guard. -/
def binSem (op : BinOp) (t : Nat) (x y : Operand) (X Y : Value) : Sem Value := do eqGuard op t x y X Y; binOp op t X Y
theorem bin_snd (hT : Tab E P) {op : BinOp} {t : Nat} {ox oy : Operand} {x y v : AV} {X Y : Value} (hr : Rel B w0 ρ s.h.get w) (hx : conc ρ x = some X) (hy : conc ρ y = some Y) (h : Run (binA E op t x y) s v s') :
    Does P B w0 ρ s s' w (binSem op t ox oy X Y) v := by
  unfold binA at h
  split at h
  -- add, sub, mul
  iterate 3
    · obtain rfl := int_conc hx; obtain rfl := int_conc hy
      split at h
      · rename_i hk
        obtain rfl := beqK_eq hk
        rw [int_eq] at h
        refine ret_does (α := Unit) hr h ?_ rfl
        simp [binSem, run_eqGuard_off, binOp, Op.intArith, wrapI_eq]
      · exact (fail_some h).elim
  -- quo, rem
  iterate 2
    · obtain rfl := int_conc hx; obtain rfl := int_conc hy
      split at h
      · rename_i hk hb
        obtain rfl := beqK_eq hk
        rw [beqI_eq, beq_eq_false_iff_ne] at hb
        rw [int_eq] at h
        refine ret_does (α := Unit) hr h ?_ rfl
        simp [binSem, run_eqGuard_off, binOp, Op.intDiv, wrapI_eq, hb]
      · exact (fail_some h).elim
  -- shl, shr
  · obtain rfl := int_conc hx; obtain rfl := int_conc hy
    rw [int_eq] at h
    refine ret_does (α := Unit) hr h ?_ rfl
    rename_i k a k' b
    have hb : ¬ ((b : Int) < 0) := by omega
    simp [binSem, run_eqGuard_off, binOp, Op.shift, shlA, hb]
  · obtain rfl := int_conc hx; obtain rfl := int_conc hy
    rw [int_eq] at h
    refine ret_does (α := Unit) hr h ?_ rfl
    rename_i k a k' b
    have hb : ¬ ((b : Int) < 0) := by omega
    simp [binSem, run_eqGuard_off, binOp, Op.shift, shrA, hb]
  -- lss, gtr
  iterate 2
    · obtain rfl := int_conc hx; obtain rfl := int_conc hy
      split at h
      · rename_i hk
        obtain rfl := beqK_eq hk
        rw [bool_eq, ltI_eq] at h
        refine ret_does (α := Unit) hr h ?_ rfl
        simp [binSem, run_eqGuard_off, binOp, Op.intCmp]
      · exact (fail_some h).elim
  -- leq, geq
  iterate 2
    · obtain rfl := int_conc hx; obtain rfl := int_conc hy
      split at h
      · rename_i hk
        obtain rfl := beqK_eq hk
        simp only [bool_eq, ltI_eq] at h
        refine ret_does (α := Unit) hr h ?_ rfl
        simp [binSem, run_eqGuard_off, binOp, Op.intCmp]
        rw [Bool.eq_iff_iff]; simp
      · exact (fail_some h).elim
  -- eql, neq of numbers
  · obtain rfl := int_conc hx; obtain rfl := int_conc hy
    split at h
    · rename_i hk
      obtain rfl := beqK_eq hk
      rw [bool_eq, beqI_eq] at h
      refine ret_does (α := Unit) hr h ?_ rfl
      simp [binSem, eqGuard, binOp, Op.intCmp]
    · exact (fail_some h).elim
  · obtain rfl := int_conc hx; obtain rfl := int_conc hy
    split at h
    · rename_i hk
      obtain rfl := beqK_eq hk
      rw [bool_eq, beqI_eq] at h
      refine ret_does (α := Unit) hr h ?_ rfl
      simp [binSem, eqGuard, binOp, Op.intCmp]
      rfl
    · exact (fail_some h).elim
  -- strings
  · obtain rfl := str_conc hx; obtain rfl := str_conc hy
    rename_i a b
    split at h
    · rename_i hle
      have hle := ble_true hle
      refine ret_does (α := Unit) hr h (V := .string ⟨(a ++ b).toArray⟩) ?_ (by simp [conc])
      have e : ((⟨a.toArray⟩ : ByteArray) ++ ⟨b.toArray⟩) = ⟨(a ++ b).toArray⟩ := by
        apply ByteArray.ext
        simp [ByteArray.data_append]
      have s1 : (⟨a.toArray⟩ : ByteArray).size = a.length := by show a.toArray.size = _; simp
      have s2 : (⟨b.toArray⟩ : ByteArray).size = b.length := by show b.toArray.size = _; simp
      have s3 : ¬ (9223372036854775807 < ((a.length : Int) + (b.length : Int))) := by omega
      simp [binSem, run_eqGuard_off, binOp, Op.stringOp, e, s1, s2, s3]
    · exact (fail_some h).elim
  · obtain rfl := str_conc hx; obtain rfl := str_conc hy
    rw [bool_eq, beqB_eq] at h
    refine ret_does (α := Unit) hr h ?_ rfl
    simp [binSem, eqGuard, binOp, Op.stringOp, ByteArray.toList_eq]
  · obtain rfl := str_conc hx; obtain rfl := str_conc hy
    rw [bool_eq, beqB_eq] at h
    refine ret_does (α := Unit) hr h ?_ rfl
    simp [binSem, eqGuard, binOp, Op.stringOp, ByteArray.toList_eq]
  -- equality of whatever else
  · rename_i n1 n2
    split at h
    · rename_i b hok heq
      rw [bool_eq] at h
      refine ret_does (α := Unit) hr h (V := .bool b) ?_ rfl
      have h1 := eqT_snd (w := w) hT 50 t x y X Y b hx hy heq Op.maxDepth (by decide)
      have h2 := run_eqGuard_on (w := w) (op := .eql) (x := ox) (y := oy) (Bv := Y) hT hx hok
      obtain ⟨g1, g2⟩ := eqT_shapes hx hy heq (fun k a k' b e1 e2 => n1 k a k' b e1 e2) (fun a b e1 e2 => n2 a b e1 e2)
      simp only [binSem, g1, Sem.run_bind, h2, Result.andThen_ok, Op.equal, h1, Sem.run_pure]
    · exact (fail_some h).elim
  · rename_i n1 n2
    split at h
    · rename_i b hok heq
      rw [bool_eq] at h
      refine ret_does (α := Unit) hr h (V := .bool !b) ?_ rfl
      have h1 := eqT_snd (w := w) hT 50 t x y X Y b hx hy heq Op.maxDepth (by decide)
      have h2 := run_eqGuard_on (w := w) (op := .neq) (x := ox) (y := oy) (Bv := Y) hT hx hok
      obtain ⟨g1, g2⟩ := eqT_shapes hx hy heq (fun k a k' b e1 e2 => n1 k a k' b e1 e2) (fun a b e1 e2 => n2 a b e1 e2)
      simp only [binSem, g2, Sem.run_bind, h2, Result.andThen_ok, Op.equal, h1, Sem.run_pure]
    · exact (fail_some h).elim
  · obtain rfl := int_conc hx; obtain rfl := int_conc hy
    split at h
    · rename_i hsh hk f1 f2
      obtain rfl := beqK_eq hk
      split at h
      · rename_i r hb
        rw [int_eq] at h
        refine ret_does (α := Unit) hr h ?_ rfl
        have hrun := bits_snd (P := P) (w := w) f1 f2 hb
        unfold bitsA at hb
        split at hb
        · simp [binSem, run_eqGuard_off, binOp]; exact hrun
        · simp [binSem, run_eqGuard_off, binOp]; exact hrun
        · simp [binSem, run_eqGuard_off, binOp]; exact hrun
        · simp [binSem, run_eqGuard_off, binOp]; exact hrun
        · cases hb
      · exact (fail_some h).elim
    · exact (fail_some h).elim
  · exact (fail_some h).elim
end
end Go.Aex
