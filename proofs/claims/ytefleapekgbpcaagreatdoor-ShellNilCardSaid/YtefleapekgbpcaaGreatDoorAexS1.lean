/- Summaries: functions of a number, and of bytes. -/
import Derived.Test.YtefleapekgbpcaaGreatDoorAexZ
set_option linter.unusedVariables false
set_option linter.unusedSimpArgs false
namespace Go.Aex
open Go.RowKit
section
variable {P : Program} {B : Nat} {w0 : World}
/-- From a contract that leaves the memory as it is. -/
theorem sum_of_calls {g : Nat} {s : St} {ρ : Ren} {w : World} {ARGS : List Value} {v : AV} {V : Value} {fn : Func} (hfn : P.funcs[g]? = some fn) (hb : fn.body.isNone = false) (hn : (fn.name == "runtime.NumGoroutine") = false)
    (hc : Calls P g ARGS.toArray w fun e w' => e = .returned V ∧ w' = w) (hr : Rel B w0 ρ s.h.get w) (hv : conc ρ v = some V) :
    ∃ fn, P.funcs[g]? = some fn ∧ fn.body.isNone = false ∧ (fn.name == "runtime.NumGoroutine") = false ∧ ∀ cs : List Frame, ∃ ρ' V w' fr, Steps P (lone (Frame.enter P g ARGS.toArray .normal) cs w) (lone fr cs w') ∧ fr.fn = g ∧ fr.leaving P w' (.returned V) ∧ Ext ρ ρ' s.nx s.nx ∧ Rel B w0 ρ' s.h.get w' ∧ conc ρ' v = some V := by
  refine ⟨fn, hfn, hb, hn, fun cs => ?_⟩
  obtain ⟨e, w', fr, ⟨rfl, rfl⟩, h1, h2, h3⟩ := hc cs
  exact ⟨ρ, V, _, fr, h1, h2, h3, Ext.refl _ _ _, hr, hv⟩
/-- How many noughts a number of 16 bits ends in. -/
def tz16 (args : List AV) : M AV := match args with
  | [.int .u16 (.ofNat x)] => match Nat.blt x 65536, Nat.beq x 0 with
    | true, true => ret (.int .i64 (.ofNat 16))
    | true, false => strictN (Nat.log2 (Nat.land x (65536 - x))) fun k => ret (.int .i64 (.ofNat k))
    | _, _ => fail
  | _ => fail
theorem tz16_ok {g : Nat} {fn : Func} (hfn : P.funcs[g]? = some fn) (hb : fn.body.isNone = false) (hn : (fn.name == "runtime.NumGoroutine") = false)
    (hc : ∀ w, Below B w0 w → ∀ x : Nat, x < 65536 → Calls P g #[.int .u16 x] w fun e w' => e = .returned (.int .i64 (if x = 0 then 16 else Nat.log2 (x &&& (65536 - x)) : Nat)) ∧ w' = w) : SumOk P B w0 g tz16 where
  good args := by
    unfold tz16
    repeat' (first | exact good_ret _ | exact good_fail | (rw [strictN_is]; exact good_ret _) | split)
  run {args s v s'} h ρ w ARGS hr _ hA := by
    unfold tz16 at h
    split at h
    · rename_i x
      obtain ⟨X, Y, hX, hY, rfl⟩ := concL_cons hA
      simp only [concL] at hY; cases hY
      obtain rfl := int_conc hX
      split at h
      · rename_i h1 h2
        obtain ⟨rfl, rfl⟩ := ret_some h
        have h1 := blt_true h1
        obtain rfl := beq_true h2
        have := hc w hr.bel 0 h1
        exact sum_of_calls hfn hb hn this hr (by simp [conc])
      · rename_i h1 h2
        rw [strictN_eq] at h
        obtain ⟨rfl, rfl⟩ := ret_some h
        have h1 := blt_true h1
        have h2 := beq_false h2
        have := hc w hr.bel x h1
        rw [if_neg h2] at this
        exact sum_of_calls hfn hb hn this hr (by simp [conc])
      · exact (fail_some h).elim
    · exact (fail_some h).elim
/-- Numbers of bytes. -/
def natsOf : List AV → Option (List Nat)
  | [] => some []
  | v :: l => match v with
    | .int .u8 (.ofNat b) => match Nat.blt b 256, natsOf l with
      | true, some r => some (b :: r)
      | _, _ => none
    | _ => none
theorem natsOf_some : ∀ {l : List AV} {bs : List Nat}, natsOf l = some bs → l = bs.map (fun b => AV.int .u8 (.ofNat b)) ∧ ∀ b ∈ bs, b < 256
  | [], bs, h => by simp only [natsOf] at h; cases h; exact ⟨rfl, fun b hb => by cases hb⟩
  | v :: l, bs, h => by
    simp only [natsOf] at h
    split at h
    · split at h
      · rename_i b _ _ r h1 h2
        cases h
        obtain ⟨e1, e2⟩ := natsOf_some h2
        refine ⟨by rw [e1]; rfl, fun x hx => ?_⟩
        rcases List.mem_cons.1 hx with rfl | hx
        · exact blt_true h1
        · exact e2 x hx
      · cases h
    · cases h
def bit1 (c : Nat) : Nat := Nat.xor (Nat.shiftRight c 1) (Nat.mul 3988292384 (Nat.land c 1))
def byte1 (c b : Nat) : Nat := bit1 (bit1 (bit1 (bit1 (bit1 (bit1 (bit1 (bit1 (Nat.xor c b))))))))
def crcA : List Nat → Nat → Nat
  | [], c => c
  | b :: l, c => strictN (byte1 c b) fun d => crcA l d
/-- The sum of what a slice holds. -/
def sumA (args : List AV) : M AV := match args with
  | [.slice i o len _] => bnd (getRow i) fun r => match takeAll len (r.2.drop o) with
    | some l => match natsOf l, Nat.blt len 4611686018427387904 with
      | some bs, true => strictN (Nat.xor 4294967295 (crcA bs 4294967295)) fun k => ret (.int .u32 (.ofNat k))
      | _, _ => fail
    | none => fail
  | _ => fail
theorem sumA_ok {g : Nat} {fn : Func} (hfn : P.funcs[g]? = some fn) (hb : fn.body.isNone = false) (hn : (fn.name == "runtime.NumGoroutine") = false)
    (hc : ∀ (w : World) (blk off cap : Nat) (l : List Nat), l.length < 4611686018427387904 → (∀ b ∈ l, b < 256) → (∀ j (hj : j < l.length), w.cell? ⟨blk, off + j, none⟩ = some (.int .u8 l[j])) →
      Calls P g #[.slice (some ⟨blk, off, none⟩) l.length cap] w fun e w' => e = .returned (.int .u32 (Nat.xor 4294967295 (crcA l 4294967295) : Nat)) ∧ w' = w) : SumOk P B w0 g sumA where
  good args := by
    unfold sumA
    repeat' (first | exact good_ret _ | exact good_fail | exact good_getRow _ | (rw [strictN_is]; exact good_ret _) | refine good_bnd ?_ (fun _ => ?_) | split)
  run {args s v s'} h ρ w ARGS hr _ hA := by
    unfold sumA at h
    split at h
    · rename_i i o len cap
      obtain ⟨X, Y, hX, hY, rfl⟩ := concL_cons hA
      simp only [concL] at hY; cases hY
      replace h := bnd_some h; obtain ⟨r, s3, g3, h⟩ := h
      obtain ⟨hrow, hrd⟩ := getRow_some g3
      split at h
      · rename_i l hl
        split at h
        · rename_i bs hbs hlt
          rw [strictN_eq] at h
          obtain ⟨rfl, rfl⟩ := ret_some h
          obtain ⟨rfl, hbl⟩ := natsOf_some hbs
          obtain ⟨p, hp, hXe⟩ := slice_conc hX; subst hXe
          obtain ⟨p', c, t, fr, h1, h2, _, _, _, h6⟩ := hr.objs i _ hrow
          rw [hp] at h1; cases h1
          obtain ⟨hlen, hget⟩ := takeAll_get hl
          rw [List.length_map] at hlen
          subst hlen
          have := hc w p.blk (p.base + o) (capV p cap) bs (blt_true hlt) hbl (fun j hj => by
            have hg := hget j (AV.int .u8 (.ofNat bs[j])) (by simp [hj])
            rw [List.getElem?_drop] at hg
            obtain ⟨V, hV, hcV⟩ := h6 (o + j) _ hg
            obtain rfl := int_conc hV
            rw [show p.base + (o + j) = p.base + o + j by omega] at hcV
            simp [World.cell?, h2, hcV])
          obtain ⟨e1, e2⟩ := hrd
          have hr3 : Rel B w0 ρ s3.h.get w := by rw [e1]; exact hr
          rw [← e2]
          exact sum_of_calls (s := s3) hfn hb hn this hr3 (by simp [conc])
        · exact (fail_some h).elim
      · exact (fail_some h).elim
    · exact (fail_some h).elim
end
end Go.Aex
