/- Parts: PAllx66, HRefA, HHeld, HRefB, HRefC, HRefE, HRefG, HDecE, PAllx67, PAllx68, PAllx69, PAllx70, PAllx73, HRefH, EDecF, EDecG, EDecI, EDecH, PAllx53, EAlike, HRefI, HAwake15, HLawReads, HLawAll, HJoined, RContentAll. -/
import Derived.Test.YtioooiflpabngaaContentAllB
import Derived.Test.YtioooiflpabngaaContentAllD
import Derived.Deep.RegionHeld3
import Derived.Deep.QuietTactic
import Derived.BigQuiet
import Derived.IntWalk
import Derived.Shelf.RegionOpenPlain
import Derived.Lib.SlBytesConst
import Derived.WalkSpells
import Derived.Test.YtioooiflpabngaaRows
import Derived.ProofKit
import Derived.WalkKit
import Derived.OpenShut
import Derived.ShutString
import Derived.ChangeOld
import Derived.Below
import Derived.SizedLaws
set_option linter.unusedVariables false
set_option linter.unusedSimpArgs false
section
namespace Go.Proofs.Ytioooiflpabngaa.PAll
open Go.RowKit Go.Proofs.YtioooiflpabngaaW.PrintWords Go.Proofs.YtioooiflpabngaaW.PrintLast Go.Proofs.YtioooiflpabngaaW.PrintMore
attribute [local go_sem] max2_int min2_int max_two min_two max_three min_three max_four min_four   -- for this text's walks alone
set_option linter.unusedVariables false
set_option linter.unusedSimpArgs false
def folkmootref02_Uint.l0 : Nat → Int → List Int → Option (List Int)
 | 0, _, _ => none
 | k + 1, x0, x3 => if x0 > 127 then (if x3.length < 140737488355328 then (folkmootref02_Uint.l0 k (IntKind.u64.wrap (Int.tdiv x0 128)) (x3 ++ [(Int.tmod x0 128 + 128) % 256])) else (none)) else (if x3.length < 140737488355328 then (some (x3 ++ [(x0) % 256])) else (none))
def folkmootref02_Uint.f (k : Nat) (a0 : Int) : Option (List Int) := folkmootref02_Uint.l0 k a0 ([] : List Int)
set_option maxHeartbeats 8000000 in
set_option maxRecDepth 100000 in
theorem folkmootref02_Uint.calls (k : Nat) (a0 : Int) (r : List Int) (w : World) (h : folkmootref02_Uint.f k a0 = some r) :
  Calls Try.prog 107 #[.int .u64 a0] w fun e w' => ∃ v0_ : Value, e = .returned (v0_) ∧ Kd.R (Kd.int .u8) 5 w' w.heap.size (fun _ => True) v0_ r ∧ Below w.heap.size w w' := by
 have HB := Aside0.mk (Below.refl w.heap.size w)
 have H : (folkmootref02_Uint.l0 k a0 ([] : List Int)) = some r := h
 clear h
 have H' := Aside0.mk H
 clear H
 go_enter Try.func107, Try.ntmps107
 go_wp2
 go_loopg [0, 3] k (fun kq v0 v3 w' => ∃ (x0_1 : Int) (x3_1 : List Int), v0 = .int .u64 x0_1 ∧ Aside0 (folkmootref02_Uint.l0 kq x0_1 x3_1 = some r) ∧ Aside0 (kq ≤ k) ∧ Aside0 (Kd.R (Kd.int .u8) 5 w' w.heap.size (fun _ => True) v3 x3_1) ∧ Aside0 (Below w.heap.size w w'))
 case atStart => exact ⟨(a0), (([] : List Int)), (by first | rfl | (simp; done) | (simp [*]; done)), H', ⟨Nat.le_refl _⟩, ⟨by first | exact Kd.R_nil _ _ _ _ _ | exact Kd.N_nil _ _ _ _ _ | exact Kd.V_nil _ _ _ _ _ | exact Kd.Q_nil _ _ _ _ _ | exact Kd.S_nil _ _ _ _ _⟩, ⟨by repeat (first | (with_reducible first | exact HB.out | apply below_alloc | apply pw_below_drewN | apply below_drew1) | exact HB.out)⟩⟩
 case round =>
  clear H'
  try clear c1
  obtain ⟨x0_1, x3_1, rfl, HA, HK1, HO_3, HB⟩ := hrel
  cases gk with
  | zero => exact absurd HA.out (by simp [folkmootref02_Uint.l0])
  | succ k1 =>
   have H := HA.out
   clear HA
   simp only [folkmootref02_Uint.l0] at H
   by_cases c2 : x0_1 > 127
   ·
    rw [if_pos c2] at H
    have c2b0 : decide (127 < x0_1) = true := decide_eq_true c2
    clear c2
    by_cases c3 : x3_1.length < 140737488355328
    ·
     rw [if_pos c3] at H
     have LMc3 := Aside0.mk c3
     clear c3
     obtain ⟨y608, hy608⟩ : ∃ y_ : List Int, y_ = (x3_1 ++ [(Int.tmod x0_1 128 + 128) % 256]) := ⟨_, rfl⟩
     replace H : (folkmootref02_Uint.l0 k1 (IntKind.u64.wrap (Int.tdiv x0_1 128)) y608) = some r := by first | (rw [hy608]; with_reducible exact H) | (have H2_ := (Option.bind_some _ _).symm.trans H; rw [hy608]; with_reducible exact H2_) | (have H2_ := (Option.bind_some _ _).symm.trans H; with_reducible exact H2_) | with_reducible exact H | (rw [hy608]; exact H) | exact H
     have Ny608 := Aside0.mk hy608
     clear hy608
     have H' := Aside0.mk H
     clear H
     go_wp2_with (first | ((with_reducible refine gate_builtin (b := .append) (xs := #[.tmp 6, .tmp 11]) rfl ?_); at_builtin; refine Kd.R_append (Kd.int .u8) (w0 := w) w.heap.size rfl (.tmp 6) (.tmp 11) 30 5 (.int .u8 0) 1 rfl Try.underlying30 info5 rfl (by decide) (by omega) u3 x3_1 ((Int.tmod x0_1 128 + 128) % 256) [.int .u8 ((Int.tmod x0_1 128 + 128) % 256)] (fun _ => True) (fun _ => False) rfl rfl ?aP (fun _ hk => hk.elim) ?aF ?aO ?aB ?aS ?aL ?_; (case aP => exact rfl); (case aB => exact zb_); (case aF => exact (fun _ _ => trivial)); (case aO => exact (zr_ HO_3)); (case aS => exact (below_size zb_)); (case aL => have := LMc3.out; omega); intro v609 w4 ho hb hg hat; rw [← Ny608.out] at ho; have n0_ := Aside0.mk (hb); have n1_ := Aside0.mk (ho); clear HB; clear HO_3; have HB := n0_; have HO610 := n1_; clear n0_ n1_; clear ho hb hg hat))
     go_roundg k1
     case measure => have := HK1.out; omega
     case rel => exact ⟨(IntKind.u64.wrap (Int.tdiv x0_1 128)), (y608), (by first | rfl | (simp; done) | (simp [*]; done)), H', ⟨by have := HK1.out; omega⟩, ⟨by (with_reducible repeat (first | apply Kd.R_alloc | apply Kd.R_drewN | apply Kd.R_drew)); exact HO610.out⟩, ⟨by repeat (first | (with_reducible first | exact HB.out | apply below_alloc | apply pw_below_drewN | apply below_drew1) | exact HB.out)⟩⟩
    ·
     rw [if_neg c3] at H
     exact absurd H (by simp)
   ·
    rw [if_neg c2] at H
    have c2b0 : decide (127 < x0_1) = false := decide_eq_false c2
    clear c2
    by_cases c5 : x3_1.length < 140737488355328
    ·
     rw [if_pos c5] at H
     have LMc5 := Aside0.mk c5
     clear c5
     obtain ⟨y611, hy611⟩ : ∃ y_ : List Int, y_ = (x3_1 ++ [(x0_1) % 256]) := ⟨_, rfl⟩
     replace H : (some y611) = some r := by first | (rw [hy611]; with_reducible exact H) | (have H2_ := (Option.bind_some _ _).symm.trans H; rw [hy611]; with_reducible exact H2_) | (have H2_ := (Option.bind_some _ _).symm.trans H; with_reducible exact H2_) | with_reducible exact H | (rw [hy611]; exact H) | exact H
     have Ny611 := Aside0.mk hy611
     clear hy611
     obtain rfl := Option.some.inj H
     go_wp2_with (first | ((with_reducible refine gate_builtin (b := .append) (xs := #[.tmp 15, .tmp 18]) rfl ?_); at_builtin; refine Kd.R_append (Kd.int .u8) (w0 := w) w.heap.size rfl (.tmp 15) (.tmp 18) 30 5 (.int .u8 0) 1 rfl Try.underlying30 info5 rfl (by decide) (by omega) u3 x3_1 ((x0_1) % 256) [.int .u8 ((x0_1) % 256)] (fun _ => True) (fun _ => False) rfl rfl ?aP (fun _ hk => hk.elim) ?aF ?aO ?aB ?aS ?aL ?_; (case aP => exact rfl); (case aB => exact zb_); (case aF => exact (fun _ _ => trivial)); (case aO => exact (zr_ HO_3)); (case aS => exact (below_size zb_)); (case aL => have := LMc5.out; omega); intro v612 w6 ho hb hg hat; rw [← Ny611.out] at ho; have n0_ := Aside0.mk (hb); have n1_ := Aside0.mk (ho); clear HB; clear HO_3; have HB := n0_; have HO613 := n1_; clear n0_ n1_; clear ho hb hg hat))
     go_ret
     exact ⟨_, by first | rfl | (simp [errW_none, errW_some] <;> rfl) | (simp [*, errW_none, errW_some] <;> rfl), by (with_reducible repeat (first | apply Kd.R_alloc | apply Kd.R_drewN | apply Kd.R_drew)); exact HO613.out, by repeat (first | (with_reducible first | exact HB.out | apply below_alloc | apply pw_below_drewN | apply below_drew1) | exact HB.out)⟩
    ·
     rw [if_neg c5] at H
     exact absurd H (by simp)
end Go.Proofs.Ytioooiflpabngaa.PAll
end
section
namespace Go.Proofs.Ytioooiflpabngaa.PAll
open Go.RowKit Go.Proofs.YtioooiflpabngaaW.PrintWords Go.Proofs.YtioooiflpabngaaW.PrintLast Go.Proofs.YtioooiflpabngaaW.PrintMore
set_option linter.unusedVariables false
set_option linter.unusedSimpArgs false
def RdR (w : World) (g B : Nat) (A : Option Addr) (c : Nat) (P : List Int) (l : List Int) (bad : Bool) : Prop :=
  ∃ at_ : Int, w.heap[g]? = some (.cells #[.slice A P.length c, .int .i64 at_] 127 (0, 0)) ∧ Kd.F (Kd.int .u8) w (fun k => k < B) A P.length P ∧ P.length ≤ c ∧ B ≤ g ∧ Byt P ∧ P.length < 2199023255552 ∧ ((bad = true ∧ at_ = -1) ∨ (bad = false ∧ ∃ n : Nat, at_ = (n : Int) ∧ n ≤ P.length ∧ l = P.drop n))
section
variable {w w' : World} {g B c : Nat} {A : Option Addr} {P l l' : List Int} {bad : Bool}
theorem RdR.keep (h : RdR w g B A c P l bad) (hb : Below (g + 1) w w') : RdR w' g B A c P l bad := by
  obtain ⟨at_, h1, h2, h3, h4, h5, h6, h7⟩ := h
  exact ⟨at_, (hb.block g (Nat.lt_succ_self _)).trans h1, Kd.F_step h2 (fun k hk _ => hb.block k (by omega)), h3, h4, h5, h6, h7⟩
theorem RdR.lt (h : RdR w g B A c P l bad) : g < w.heap.size := by
  obtain ⟨at_, h1, _⟩ := h
  exact blk_lt h1
theorem RdR.fail (h : RdR w g B A c P l bad) (l' : List Int) : RdR (w.setCell ⟨g, 1, none⟩ (.int .i64 (-1))) g B A c P l' true ∧ w.grownBy (w.setCell ⟨g, 1, none⟩ (.int .i64 (-1))) (some g) := by
  obtain ⟨at_, h1, h2, h3, h4, h5, h6, h7⟩ := h
  exact ⟨⟨-1, (blk_set h1 1 _).trans rfl, Kd.F_far h2 (fun k hk => by simp only; omega) _, h3, h4, h5, h6, .inl ⟨rfl, rfl⟩⟩, grown_set _ _ _ _⟩
end
theorem refUint_loop : ∀ (d n : Nat) (p : List Int), n < 128 ^ (d + 1) → p.length + d + 1 ≤ 140737488355327 → n < 18446744073709551616 → Ev (fun k => folkmootref02_Uint.l0 k (n : Int) p) (p ++ uintB n) := by
  intro d
  induction d with
  | zero =>
    intro n p hn hp _
    have hn2 : ¬ 128 ≤ n := by simpa using hn
    rw [uintB.eq_1 n, if_neg hn2]
    refine Ev.step (fun k => by rw [folkmootref02_Uint.l0, if_neg (by omega), if_pos (by omega)]) (Ev.const fun _ => ?_)
    rw [show (n : Int) % 256 = (n : Int) by omega]
  | succ d ih =>
    intro n p hn hp hlt
    rw [uintB.eq_1 n]
    by_cases h : 128 ≤ n
    · rw [if_pos h]
      have hd : n / 128 < 128 ^ (d + 1) := Nat.div_lt_of_lt_mul (by rw [Nat.pow_succ, Nat.mul_comm] at hn; exact hn)
      have h1 := ih (n / 128) (p ++ [((128 + n % 128 : Nat) : Int)]) hd (by simp; omega) (by omega)
      rw [List.append_assoc] at h1
      refine Ev.step (b := fun k => folkmootref02_Uint.l0 k ((n / 128 : Nat) : Int) (p ++ [((128 + n % 128 : Nat) : Int)])) (fun k => ?_) h1
      have e1 : (Int.tmod (n : Int) 128 + 128) % 256 = ((128 + n % 128 : Nat) : Int) := by
        rw [Int.tmod_eq_emod_of_nonneg (by omega)]
        omega
      have e2 : IntKind.u64.wrap (Int.tdiv (n : Int) 128) = ((n / 128 : Nat) : Int) := by
        rw [Int.tdiv_eq_ediv_of_nonneg (by omega), show (n : Int) / 128 = ((n / 128 : Nat) : Int) by omega, u64_wrap, Nat.mod_eq_of_lt (by omega)]
      rw [folkmootref02_Uint.l0, if_pos (by omega), if_pos (by omega), e1, e2]
    · rw [if_neg h]
      refine Ev.step (fun k => by rw [folkmootref02_Uint.l0, if_neg (by omega), if_pos (by omega)]) (Ev.const fun _ => ?_)
      rw [show (n : Int) % 256 = (n : Int) by omega]
theorem refUint_ev (n : Nat) (hn : n < 18446744073709551616) : Ev (fun k => folkmootref02_Uint.f k (n : Int)) (uintB n) := by
  unfold folkmootref02_Uint.f
  exact refUint_loop 9 n [] (Nat.lt_of_lt_of_le hn (by decide)) (by simp) hn
end Go.Proofs.Ytioooiflpabngaa.PAll
end
section
namespace Go.Proofs.Ytioooiflpabngaa.PAll
open Go
set_option linter.unusedVariables false
theorem opAt {ops : Array Oper} {i : Nat} {oi : Oper} {ol : List Oper} (h : ops.toList.drop i = oi :: ol) : ops[i]? = some oi := by
  have h2 := congrArg (fun l => l[0]?) h
  simpa [List.getElem?_drop] using h2
theorem tkH {P : Program} {ops : Array Oper} {Q : Exit → Act → World → Prop} {md : Region.Mode} {S : World → Prop} {oi : Oper} {ol : List Oper} {v : Value} {fuel : Nat} {listed : Array Bool} {a : Act} {w : World} (i : Nat) (hi : ops.toList.drop i = oi :: ol)
    (hs : Region.noSelect ops = true) (hf : Region.free md ops listed i = true) (hr : (Region.ready md ops listed).contains i = true)
    (hQ : ∀ c a w, Q (.panic c) (a.put oi.dst v) w → Q (.panic c) a w) (hw : Region.wanted oi (yielded ops a.tmps) = true) (hy : ∀ w, S w → (execOp a.eval oi).run P w = .ok (.value v) w) (hS : S w)
    (h : wpAnyH P md ops Q S fuel (listed.setIfInBounds i true) (a.put oi.dst v) w) : wpAnyH P md ops Q S (fuel + 1) listed a w :=
  wpAnyH_take (opAt hi) hs hf hr hQ (Or.inl ⟨hw, hy⟩) hS h
theorem tkU {P : Program} {ops : Array Oper} {Q : Exit → Act → World → Prop} {md : Region.Mode} {S : World → Prop} {oi : Oper} {ol : List Oper} {fuel : Nat} {listed : Array Bool} {a : Act} {w : World} (i : Nat) (hi : ops.toList.drop i = oi :: ol)
    (hs : Region.noSelect ops = true) (hf : Region.free md ops listed i = true) (hr : (Region.ready md ops listed).contains i = true)
    (hQ : ∀ c a w, Q (.panic c) (a.put oi.dst undef) w → Q (.panic c) a w) (hw : Region.wanted oi (yielded ops a.tmps) = false) (hS : S w)
    (h : wpAnyH P md ops Q S fuel (listed.setIfInBounds i true) (a.put oi.dst undef) w) : wpAnyH P md ops Q S (fuel + 1) listed a w :=
  wpAnyH_take (opAt hi) hs hf hr hQ (Or.inr ⟨hw, rfl⟩) hS h
theorem tkR {P : Program} {ops : Array Oper} {Q : Exit → Act → World → Prop} {md : Region.Mode} {S : World → Prop} {oi : Oper} {ol : List Oper} {fuel : Nat} {listed : Array Bool} {a : Act} {w : World} (i : Nat) (hi : ops.toList.drop i = oi :: ol)
    (hr : Region.ready md ops listed = [i])
    (h : ∀ K' : Act → World → Prop, Shut (∀ a w, S w → (S w → wpAnyH P md ops Q S fuel (listed.setIfInBounds i true) a w) → K' a w) → if Region.wanted oi (yielded ops a.tmps) = true then Oper.wp P oi a w K' Q else K' (a.put oi.dst undef) w) :
    wpAnyH P md ops Q S (fuel + 1) listed a w :=
  wpAnyH_ready hr (by simp) (AllReadyH.cons (opAt hi) h AllReadyH.nil)
end Go.Proofs.Ytioooiflpabngaa.PAll
end
section
namespace Go.Proofs.Ytioooiflpabngaa.PAll
open Go.RowKit Go.Proofs.YtioooiflpabngaaW.PrintWords Go.Proofs.YtioooiflpabngaaW.PrintLast Go.Proofs.YtioooiflpabngaaW.PrintMore
set_option linter.unusedVariables false
set_option linter.unusedSimpArgs false
theorem tH {P : Program} {ops : Array Oper} {Q : Exit → Act → World → Prop} {md : Region.Mode} {S : World → Prop} {oi : Oper} {ol : List Oper} {v : Value} {fuel : Nat} {listed : Array Bool} {a : Act} {w : World} (i : Nat) (hS : S w)
    (h : wpAnyH P md ops Q S fuel (listed.setIfInBounds i true) (a.put oi.dst v) w)
    (hi : ops.toList.drop i = oi :: ol := by rfl) (hs : Region.noSelect ops = true := by kernel_rfl) (hf : Region.free md ops listed i = true := by kernel_rfl) (hr : (Region.ready md ops listed).contains i = true := by kernel_rfl)
    (hQ : ∀ c a w, Q (.panic c) (a.put oi.dst v) w → Q (.panic c) a w := by exact fun _ _ _ h => h) (hw : Region.wanted oi (yielded ops a.tmps) = true := by rfl)
    (hy : ∀ w, S w → (execOp a.eval oi).run P w = .ok (.value v) w := by (intro w' hSw; (try dsimp only at hSw); go_simp; (try with_reducible rfl); done)) : wpAnyH P md ops Q S (fuel + 1) listed a w :=
  tkH i hi hs hf hr hQ hw hy hS h
theorem tU {P : Program} {ops : Array Oper} {Q : Exit → Act → World → Prop} {md : Region.Mode} {S : World → Prop} {oi : Oper} {ol : List Oper} {fuel : Nat} {listed : Array Bool} {a : Act} {w : World} (i : Nat) (hS : S w)
    (h : wpAnyH P md ops Q S fuel (listed.setIfInBounds i true) (a.put oi.dst undef) w)
    (hi : ops.toList.drop i = oi :: ol := by rfl) (hs : Region.noSelect ops = true := by kernel_rfl) (hf : Region.free md ops listed i = true := by kernel_rfl) (hr : (Region.ready md ops listed).contains i = true := by kernel_rfl)
    (hQ : ∀ c a w, Q (.panic c) (a.put oi.dst undef) w → Q (.panic c) a w := by exact fun _ _ _ h => h) (hw : Region.wanted oi (yielded ops a.tmps) = false := by rfl) : wpAnyH P md ops Q S (fuel + 1) listed a w :=
  tkU i hi hs hf hr hQ hw hS h
end Go.Proofs.Ytioooiflpabngaa.PAll
end
section
namespace Go.Proofs.Ytioooiflpabngaa.PAll
open Go.RowKit Go.Proofs.YtioooiflpabngaaW.PrintWords Go.Proofs.YtioooiflpabngaaW.PrintLast Go.Proofs.YtioooiflpabngaaW.PrintMore
set_option linter.unusedVariables false
set_option linter.unusedSimpArgs false
theorem RdR.any {w : World} {g B c : Nat} {A : Option Addr} {P l : List Int} (h : RdR w g B A c P l true) (l' : List Int) : RdR w g B A c P l' true := by
  obtain ⟨at_, h1, h2, h3, h4, h5, h6, h7⟩ := h
  refine ⟨at_, h1, h2, h3, h4, h5, h6, ?_⟩
  rcases h7 with ⟨_, rfl⟩ | ⟨e, _⟩
  · exact .inl ⟨rfl, rfl⟩
  · cases e
theorem RdR.len {w : World} {g B c : Nat} {A : Option Addr} {P l : List Int} {bad : Bool} (h : RdR w g B A c P l bad) : P.length < 2199023255552 := by
  obtain ⟨at_, h1, h2, h3, h4, h5, h6, h7⟩ := h
  exact h6
end Go.Proofs.Ytioooiflpabngaa.PAll
end
section
namespace Go.Proofs.Ytioooiflpabngaa.PAll
open Go.RowKit Go.Proofs.YtioooiflpabngaaW.PrintWords Go.Proofs.YtioooiflpabngaaW.PrintLast Go.Proofs.YtioooiflpabngaaW.PrintMore
set_option linter.unusedVariables false
set_option linter.unusedSimpArgs false
theorem form04 (n p : Int) (hn : 0 ≤ n) : folkmootref04_Form.f n p = some (fV n p) := by
  unfold fV folkmootref04_Form.f ident_Form.f
  by_cases h0 : n = 0
  · subst h0
    by_cases h1 : p = 0
    · subst h1; rfl
    · by_cases h2 : p ≥ 0 <;> by_cases h3 : p < 16 <;> simp [h1, h2, h3]
  · have hp : n > 0 := by omega
    by_cases h2 : p ≥ 0
    · by_cases h3 : p < 16
      · have : p ≤ 15 := by omega
        simp [h0, h2, h3, this, hp]
      · have : ¬ p ≤ 15 := by omega
        simp [h0, h2, h3, this, hp]
    · simp [h0, h2]
theorem form05 (n p q s : Int) (hn : 0 ≤ n) : folkmootref05_Form.f n p q s = some (fL n p q s) := by
  unfold fL folkmootref05_Form.f label_Form.f
  rw [form04 n p hn, fV_eq, Option.bind_some, Option.bind_some]
  by_cases h1 : fV n p = true
  · rw [if_pos h1, if_pos h1]
    by_cases h2 : n > 0
    · rw [if_pos h2, if_pos h2]
      by_cases h3 : q > 0
      · rw [if_pos h3, if_pos h3]
        by_cases h4 : s ≥ 0
        · rw [if_pos h4, if_pos h4]
          have : decide (s ≤ 15) = decide (s < 16) := by simp only [decide_eq_decide]; omega
          rw [this]
          rfl
        · rw [if_neg h4, if_neg h4]; rfl
      · rw [if_neg h3, if_neg h3]; rfl
    · rw [if_neg h2, if_neg h2]; rfl
  · rw [if_neg h1, if_neg h1]; rfl
end Go.Proofs.Ytioooiflpabngaa.PAll
end
section
namespace Go.Proofs.Ytioooiflpabngaa.PAll
open Go.RowKit Go.Proofs.YtioooiflpabngaaW.PrintWords Go.Proofs.YtioooiflpabngaaW.PrintLast Go.Proofs.YtioooiflpabngaaW.PrintMore
set_option linter.unusedVariables false
set_option linter.unusedSimpArgs false
theorem RdR.le {w : World} {g B c : Nat} {A : Option Addr} {P l : List Int} {bad : Bool} (h : RdR w g B A c P l bad) : B ≤ g := by
  obtain ⟨_, _, _, _, hB, _⟩ := h
  exact hB
end Go.Proofs.Ytioooiflpabngaa.PAll
end
section
namespace Go.Proofs.Ytioooiflpabngaa.PAll
open Go.RowKit Go.Proofs.YtioooiflpabngaaW.PrintWords Go.Proofs.YtioooiflpabngaaW.PrintLast Go.Proofs.YtioooiflpabngaaW.PrintMore
set_option linter.unusedVariables false
set_option linter.unusedSimpArgs false
theorem fin_put {wx : World} {b b2 : Nat} (hne : b ≠ b2) {t t2 : TypeId} {x0 x1 x2 x3 x4 y0 y1 y2 y3 y4 : Value} (h0 : wx.heap[b]? = some (.cells #[x0, x1, x2, x3, x4] t (0, 0))) (h1 : wx.heap[b2]? = some (.cells #[y0, y1, y2, y3, y4] t2 (0, 0))) (a0 a1 a2 a3 a4 s0 s1 s2 s3 s4 : Value) :
    ((((((((((wx.setCell ⟨b, 0, none⟩ a0).setCell ⟨b, 1, none⟩ a1).setCell ⟨b, 2, none⟩ a2).setCell ⟨b, 3, none⟩ a3).setCell ⟨b, 4, none⟩ a4).setCell ⟨b2, 0, none⟩ s0).setCell ⟨b2, 1, none⟩ s1).setCell ⟨b2, 2, none⟩ s2).setCell ⟨b2, 3, none⟩ s3).setCell ⟨b2, 4, none⟩ s4).heap[b]? = some (.cells #[a0, a1, a2, a3, a4] t (0, 0))
    ∧ ((((((((((wx.setCell ⟨b, 0, none⟩ a0).setCell ⟨b, 1, none⟩ a1).setCell ⟨b, 2, none⟩ a2).setCell ⟨b, 3, none⟩ a3).setCell ⟨b, 4, none⟩ a4).setCell ⟨b2, 0, none⟩ s0).setCell ⟨b2, 1, none⟩ s1).setCell ⟨b2, 2, none⟩ s2).setCell ⟨b2, 3, none⟩ s3).setCell ⟨b2, 4, none⟩ s4).heap[b2]? = some (.cells #[s0, s1, s2, s3, s4] t2 (0, 0)) := by
  refine ⟨?_, ?_⟩
  · exact blk_far (blk_far (blk_far (blk_far (blk_far (blk_put5 h0 a0 a1 a2 a3 a4) hne _) hne _) hne _) hne _) hne _
  · exact blk_put5 (blk_far (blk_far (blk_far (blk_far (blk_far h1 (Ne.symm hne) _) (Ne.symm hne) _) (Ne.symm hne) _) (Ne.symm hne) _) (Ne.symm hne) _) s0 s1 s2 s3 s4
theorem fin_below {w wx : World} {B b b2 : Nat} (h : Below B w wx) (hb : B ≤ b) (hb2 : B ≤ b2) (a0 a1 a2 a3 a4 s0 s1 s2 s3 s4 : Value) :
    Below B w ((((((((((wx.setCell ⟨b, 0, none⟩ a0).setCell ⟨b, 1, none⟩ a1).setCell ⟨b, 2, none⟩ a2).setCell ⟨b, 3, none⟩ a3).setCell ⟨b, 4, none⟩ a4).setCell ⟨b2, 0, none⟩ s0).setCell ⟨b2, 1, none⟩ s1).setCell ⟨b2, 2, none⟩ s2).setCell ⟨b2, 3, none⟩ s3).setCell ⟨b2, 4, none⟩ s4) :=
  (((((((((h.setCell hb _).setCell hb _).setCell hb _).setCell hb _).setCell hb _).setCell hb2 _).setCell hb2 _).setCell hb2 _).setCell hb2 _).setCell hb2 _
theorem fin_R {α : Type} {d : Kd α} {e : Nat} {wx : World} {base B b b2 : Nat} {v : Value} {xs : List α} (h : d.R e wx base (fun k => B < k) v xs) (hb : b ≤ B) (hb2 : b2 ≤ B) (a0 a1 a2 a3 a4 s0 s1 s2 s3 s4 : Value) :
    d.R e ((((((((((wx.setCell ⟨b, 0, none⟩ a0).setCell ⟨b, 1, none⟩ a1).setCell ⟨b, 2, none⟩ a2).setCell ⟨b, 3, none⟩ a3).setCell ⟨b, 4, none⟩ a4).setCell ⟨b2, 0, none⟩ s0).setCell ⟨b2, 1, none⟩ s1).setCell ⟨b2, 2, none⟩ s2).setCell ⟨b2, 3, none⟩ s3).setCell ⟨b2, 4, none⟩ s4) base (fun _ => True) v xs := by
  have n1 : ∀ k, B < k → k ≠ b := fun k hk => by omega
  have n2 : ∀ k, B < k → k ≠ b2 := fun k hk => by omega
  exact Kd.R_mono (Kd.R_far (Kd.R_far (Kd.R_far (Kd.R_far (Kd.R_far (Kd.R_far (Kd.R_far (Kd.R_far (Kd.R_far (Kd.R_far h n1 _) n1 _) n1 _) n1 _) n1 _) n2 _) n2 _) n2 _) n2 _) n2 _) (fun _ _ => trivial)
theorem rd_first {w W : World} {ad : Addr} {A' : Option Addr} {b : Int} {t : List Int} {c0 c' : Nat} (hb : Below w.heap.size w W) (hD : Kd.C (Kd.int .u8) w (if c0 = 1 then some ad else Option.map (fun x => x.add (1 * (Kd.int .u8).sz)) (some ad)) (List.drop 1 (b :: t)).length (List.drop 1 (b :: t))) (hlt : ad.block < w.heap.size)
    (hA : A' = if c0 = 1 then some ad else some (ad.add 1)) (hc : t.length ≤ c') : Rd (W.alloc (.cells #[.slice A' t.length c', .bool false] 143)) W.heap.size t false := by
  subst hA
  have e : (if c0 = 1 then some ad else Option.map (fun x => x.add (1 * (Kd.int .u8).sz)) (some ad)) = (if c0 = 1 then some ad else some (ad.add 1)) := rfl
  rw [e] at hD
  refine ⟨_, c', blk_new W _, Kd.C_below (Kd.C_below hD hb) (Below.alloc (Below.refl _ _) (Nat.le_refl _) _), hc, ?_⟩
  intro ad' e' _
  have hs := hb.size
  have : ad'.block = ad.block := by
    split at e'
    · cases e'; rfl
    · cases e'
      unfold Addr.add
      split <;> rfl
  omega
def DecPost (w : World) (r : Int × S32 × S53 × Int) (e : Ending) (w' : World) : Prop :=
  ∃ v5 v6 v7 : Value, e = .returned (.tuple #[.int .u8 r.1, .agg #[.int .u64 r.2.1.f0.f0.f0, .int .i64 r.2.1.f0.f0.f1, .int .u64 r.2.1.f0.f1, .int .i64 r.2.1.f0.f2, v5], .agg #[v6, v7, .int .i64 r.2.2.1.f2, .int .u64 r.2.2.1.f3.f0, .int .i64 r.2.2.1.f3.f1], .int .i64 r.2.2.2])
    ∧ Kd.R (Kd.int .u8) 5 w' w.heap.size (fun _ => True) v5 r.2.1.f1 ∧ Kd.R k32 32 w' w.heap.size (fun _ => True) v6 r.2.2.1.f0 ∧ Kd.R k27 27 w' w.heap.size (fun _ => True) v7 r.2.2.1.f1 ∧ Below w.heap.size w w'
set_option maxHeartbeats 8000000 in
set_option maxRecDepth 100000 in
theorem content_Decode.calls (k : Nat) (A0 : Option Addr) (c0 : Nat) (l0 : List Int) (r : Int × S32 × S53 × Int) (w : World) (hr0 : Kd.C (Kd.int .u8) w A0 l0.length l0) (hc0 : l0.length ≤ c0) (hl0 : l0.length < 2199023255552) (h : content_Decode.g k l0 = some r) :
    Calls Try.prog 50 #[.slice A0 l0.length c0] w (DecPost w r) := by
  have hu32 := Try.underlying32
  have hu53 := Try.underlying53
  have H := Aside0.mk h
  have HR0 := Aside0.mk hr0
  have HC0 := Aside0.mk hc0
  have HL0 := Aside0.mk hl0
  clear h hr0 hc0 hl0
  cases l0 with
  | nil =>
    have h := H.out
    simp only [content_Decode.g, Option.some.injEq] at h
    subst h
    clear H
    simp only [List.length_nil]
    go_enter Try.func50, Try.ntmps50
    go_upto_region 1 with fail
    have HB0 := Aside0.mk (show ((w.alloc (.cells zE 32)).alloc (.cells zS 53)).heap[w.heap.size]? = some (.cells zE 32 (0, 0)) from blk_alloc (blk_new w _) _)
    have HB1 := Aside0.mk (show ((w.alloc (.cells zE 32)).alloc (.cells zS 53)).heap[w.heap.size + 1]? = some (.cells zS 53 (0, 0)) from by have := blk_new (w.alloc (.cells zE 32)) (.cells zS 53); rwa [World.size_alloc] at this)
    go_wp2_with fail
    refine bodyPost_ret (results_tcct rfl _ _ w.heap.size (w.heap.size + 1) 32 53 zE zS (0, 0) (0, 0) _ _ rfl HB0.out rfl HB1.out Try.underlying32 rfl (by kernel_rfl) Try.underlying53 rfl (by kernel_rfl)) rfl ?_
    exact ⟨_, _, _, rfl, Kd.R_nil _ _ _ _ _, Kd.R_nil _ _ _ _ _, Kd.R_nil _ _ _ _ _, (Below.alloc (Below.refl _ _) (Nat.le_refl _) _).alloc (by simp) _⟩
  | cons b t =>
    obtain ⟨ad, rfl, hx⟩ := Kd.at_int HR0.out 0 (Int.le_refl _) (by simp only [List.length_cons]; omega)
    have hx0 : w.cell? ad = some (.int .u8 b) := by simpa [rd, Addr.add_zero'] using hx
    have hlt := World.block_lt_of_cell? w _ hx0
    have HX := Aside0.mk hx0
    have HD := Aside0.mk (Kd.C_drop (m := 1) (c := c0) HR0.out (by simp) HC0.out)
    clear hx hx0
    have hlen : ((b :: t).length : Int) = (t.length : Int) + 1 := by simp
    have hz := HL0.out
    have hz2 := HC0.out
    simp only [List.length_cons] at hz hz2 ⊢
    go_enter Try.func50, Try.ntmps50
    go_upto_region 3 with fail
    go_cut [6] (fun s6 wx => s6 = .pointer (some ⟨w.heap.size + 2, 0, none⟩) ∧ wx.heap.size = w.heap.size + 3 ∧ Aside0 (wx.heap[w.heap.size]? = some (.cells zE 32 (0, 0))) ∧ Aside0 (wx.heap[w.heap.size + 1]? = some (.cells zS 53 (0, 0))) ∧ Aside0 (Rd wx (w.heap.size + 2) t false) ∧ Aside0 (Below w.heap.size w wx))
    case first =>
      have HB0 := Aside0.mk (show ((w.alloc (.cells zE 32)).alloc (.cells zS 53)).heap[w.heap.size]? = some (.cells zE 32 (0, 0)) from blk_alloc (blk_new w _) _)
      have HB1 := Aside0.mk (show ((w.alloc (.cells zE 32)).alloc (.cells zS 53)).heap[w.heap.size + 1]? = some (.cells zS 53 (0, 0)) from by have := blk_new (w.alloc (.cells zE 32)) (.cells zS 53); rwa [World.size_alloc] at this)
      have HW := Aside0.mk (show Below w.heap.size w ((w.alloc (.cells zE 32)).alloc (.cells zS 53)) from (Below.alloc (Below.refl _ _) (Nat.le_refl _) _).alloc (by simp) _)
      by_cases hc1 : c0 = 1
      · subst hc1
        have ht : t = [] := by
          cases t with
          | nil => rfl
          | cons x t => simp only [List.length_cons] at hz2; omega
        subst ht
        have HN := Aside0.mk (rd_first HW.out HD.out hlt (A' := some ad) (c' := 0) (by simp) (by simp))
        clear HD
        go_wp2_with (go_at_call 94; refine (read_New _ ([] : List Int) _ _).mono ?_; rintro e w2 ⟨rfl, rfl⟩)
        go_meet
        exact ⟨rfl, by simp, ⟨blk_alloc HB0.out _⟩, ⟨blk_alloc HB1.out _⟩, ⟨by have h7 := HN.out; simp only [World.size_alloc] at h7; exact h7⟩, ⟨HW.out.alloc (by simp; omega) _⟩⟩
      · go_wp2_with (go_at_call 94; with_reducible refine (read_New _ t _ _).mono ?_; rintro e w2 ⟨rfl, rfl⟩)
        go_meet
        exact ⟨rfl, by simp, ⟨blk_alloc HB0.out _⟩, ⟨blk_alloc HB1.out _⟩, ⟨by have h7 := rd_first HW.out HD.out hlt (A' := some (ad.add 1)) (c' := c0 - 1) (by rw [if_neg (by assumption)]) (by omega); simp only [World.size_alloc] at h7; exact h7⟩, ⟨HW.out.alloc (by simp; omega) _⟩⟩
    case rest =>
      obtain ⟨rfl, hsz, HB0, HB1, HRD, HBW⟩ := hcut
      have hx5 := Below.cell HBW.out hlt
      rw [HX.out] at hx5
      have HM := Aside0.mk (show SumSt w (wc.alloc (.cells #[.slice none 0 0, .slice none 0 0, .int .i64 0, .int .u64 0, .int .i64 0] 53)) (.slice none 0 0) (.slice none 0 0) [] [] 0 0 0 t false from
        ⟨HRD.out.keep (Below.alloc (Below.refl _ _) (by omega) _), blk_alloc HB0.out _, blk_alloc HB1.out _, by have := blk_new wc (.cells zS 53); rw [hsz] at this; exact this, Kd.R_nil _ _ _ _ _, Kd.R_nil _ _ _ _ _, HBW.out.alloc (by omega) _⟩)
      have hlt5 : ad.block < wc.heap.size := by omega
      clear HB0 HB1 HRD
      go_upto_region 5 with fail
      clear hsz
      go_upto_region 6 with fail
      clear hx5 hlt5 HBW HX HD hlen
      generalize wc.alloc (.cells #[.slice none 0 0, .slice none 0 0, .int .i64 0, .int .u64 0, .int .i64 0] 53) = wr at HM ⊢
      have hlt3 := HM.out.lt
      by_cases hb1 : b = 1
      · subst hb1
        have HC := Aside0.mk (read_Entry (w.heap.size + 2) t false wr HM.out.rd (by omega))
        have hD := H.out
        simp only [content_Decode.g, if_true] at hD
        have HL := Aside0.mk (eRd_len t false)
        obtain ⟨⟨⟨⟨⟨n, p⟩, q, s⟩, m⟩, ok, t2, b2⟩, hu⟩ : ∃ u, eRd t false = u := ⟨_, rfl⟩
        rw [hu] at HC hD HL
        simp only at HC hD HL
        have HDD := Aside0.mk hD
        clear hu hD H
        go_upto_region 8 with (go_at_call 95; refine HC.out.mono ?_; rintro e w2 ⟨v, rfl, hm, hR, hg⟩; obtain ⟨Am, cm, rfl⟩ := Kd.R_slice hm; have HM2 := Aside0.mk (HM.out.grown hR hg); have HV2 := Aside0.mk (show Kd.R (Kd.int .u8) 5 w2 w.heap.size (fun k => w.heap.size + 3 < k) (.slice Am m.length cm) m from Kd.R_lower (Kd.R_mono hm (fun k hk => by omega)) (by omega)); clear hm hR hg HC)
        have HX2 := Aside0.mk (blk_new w2 (.cells #[.int .u64 n, .int .i64 p, .int .u64 q, .int .i64 s, .slice Am m.length cm] 32))
        have HM3 := Aside0.mk (HM2.out.below (Below.alloc (Below.refl _ _) (Nat.le_refl _) (.cells #[.int .u64 n, .int .i64 p, .int .u64 q, .int .i64 s, .slice Am m.length cm] 32)))
        have HV3 := Aside0.mk (Kd.R_alloc HV2.out (.cells #[.int .u64 n, .int .i64 p, .int .u64 q, .int .i64 s, .slice Am m.length cm] 32))
        have hlt2 := HM2.out.lt
        clear HM2 HV2
        generalize hbx : w2.heap.size = bx at HX2 hlt2 ⊢
        clear hbx
        generalize w2.alloc (.cells #[.int .u64 n, .int .i64 p, .int .u64 q, .int .i64 s, .slice Am m.length cm] 32) = w3 at HX2 HM3 HV3 ⊢
        obtain ⟨hx0, hx1, hx2, hx3, hx4, hy0, hy1, hy2, hy3, hy4, hxl⟩ := blk5 HX2.out
        obtain ⟨hs0, hs1, hs2, hs3, hs4, hf0, hf1, hf2, hf3, hf4, hsl⟩ := blk5 HM3.out.b3
        obtain ⟨he0, he1, he2, he3, he4, hg0, hg1, hg2, hg3, hg4, hel⟩ := blk5 HM3.out.b0
        obtain ⟨hr0, hr1, hr2, hr3, hr4, hq0, hq1, hq2, hq3, hq4, hrl⟩ := blk5 HM3.out.b1
        cases ok
        · have hD := HDD.out
          simp only [Bool.false_eq_true, false_and, if_false, Option.some.injEq] at hD
          subst hD
          clear HDD
          go_wp2_with fail
          have hmo : Try.prog.follows .mixedOrders = true := by kernel_rfl
          go_region
          all_goals go_wp2_with fail
          all_goals refine bodyPost_ret (results_tcct rfl _ _ w.heap.size (w.heap.size + 1) 32 53 zE zS (0, 0) (0, 0) _ _ rfl ?p1_1 rfl ?p2_1 Try.underlying32 rfl (by kernel_rfl) Try.underlying53 rfl (by kernel_rfl)) rfl ?p3_1
          all_goals try (case p1_1 => with_reducible first | exact blk_drew (fin_put (by omega) HM3.out.b0 HM3.out.b1 _ _ _ _ _ _ _ _ _ _).1 | exact (fin_put (by omega) HM3.out.b0 HM3.out.b1 _ _ _ _ _ _ _ _ _ _).1)
          all_goals try (case p2_1 => with_reducible first | exact blk_drew (fin_put (by omega) HM3.out.b0 HM3.out.b1 _ _ _ _ _ _ _ _ _ _).2 | exact (fin_put (by omega) HM3.out.b0 HM3.out.b1 _ _ _ _ _ _ _ _ _ _).2)
          all_goals refine ⟨_, _, _, rfl, Kd.R_nil _ _ _ _ _, Kd.R_nil _ _ _ _ _, Kd.R_nil _ _ _ _ _, ?_⟩
          all_goals with_reducible first | exact (fin_below HM3.out.bel (Nat.le_refl _) (by omega) _ _ _ _ _ _ _ _ _ _).drew | exact (fin_below HM3.out.bel (Nat.le_refl _) (by omega) _ _ _ _ _ _ _ _ _ _)
        · have HLF := Aside0.mk (read_Left (w.heap.size + 2) t2 b2 w3 HM3.out.rd)
          have eL : (if b2 = true then (0 : Int) else (t2.length : Int)) = (((if b2 = true then 0 else t2.length : Nat)) : Int) := by cases b2 <;> simp
          rw [eL] at HLF
          clear eL
          have hD := HDD.out
          generalize (if b2 = true then 0 else t2.length : Nat) = L at HLF hD
          by_cases hL : L = 0
          · subst hL
            simp only [and_self, if_true, Option.some.injEq] at hD
            subst hD
            clear HDD
            go_wp2_with (go_at_call 96; refine HLF.out.mono ?_; rintro e w4 ⟨rfl, rfl⟩)
            have hmo : Try.prog.follows .mixedOrders = true := by kernel_rfl
            go_region
            all_goals go_wp2_with fail
            all_goals refine bodyPost_ret (results_tcct rfl _ _ w.heap.size (w.heap.size + 1) 32 53 #[.int .u64 n, .int .i64 p, .int .u64 q, .int .i64 s, .slice Am m.length cm] zS (0, 0) (0, 0) _ _ rfl ?p1_2 rfl ?p2_2 Try.underlying32 rfl (by kernel_rfl) Try.underlying53 rfl (by kernel_rfl)) rfl ?p3_2
            all_goals try (case p1_2 => with_reducible first | exact blk_drew (fin_put (by omega) HM3.out.b0 HM3.out.b1 _ _ _ _ _ _ _ _ _ _).1 | exact (fin_put (by omega) HM3.out.b0 HM3.out.b1 _ _ _ _ _ _ _ _ _ _).1)
            all_goals try (case p2_2 => with_reducible first | exact blk_drew (fin_put (by omega) HM3.out.b0 HM3.out.b1 _ _ _ _ _ _ _ _ _ _).2 | exact (fin_put (by omega) HM3.out.b0 HM3.out.b1 _ _ _ _ _ _ _ _ _ _).2)
            all_goals refine ⟨_, _, _, rfl, ?_, Kd.R_nil _ _ _ _ _, Kd.R_nil _ _ _ _ _, ?_⟩
            all_goals try (with_reducible first | exact (fin_below HM3.out.bel (Nat.le_refl _) (by omega) _ _ _ _ _ _ _ _ _ _).drew | exact (fin_below HM3.out.bel (Nat.le_refl _) (by omega) _ _ _ _ _ _ _ _ _ _))
            all_goals with_reducible first | exact Kd.R_drew (fin_R HV3.out (by omega) (by omega) _ _ _ _ _ _ _ _ _ _) | exact fin_R HV3.out (by omega) (by omega) _ _ _ _ _ _ _ _ _ _
          · rw [if_neg (by simp [hL])] at hD
            injection hD with hD
            subst hD
            clear HDD
            have hLp : 0 < L := by omega
            go_wp2_with (go_at_call 96; refine HLF.out.mono ?_; rintro e w4 ⟨rfl, rfl⟩)
            have hmo : Try.prog.follows .mixedOrders = true := by kernel_rfl
            go_region
            all_goals go_wp2_with fail
            all_goals refine bodyPost_ret (results_tcct rfl _ _ w.heap.size (w.heap.size + 1) 32 53 zE zS (0, 0) (0, 0) _ _ rfl ?p1_3 rfl ?p2_3 Try.underlying32 rfl (by kernel_rfl) Try.underlying53 rfl (by kernel_rfl)) rfl ?p3_3
            all_goals try (case p1_3 => with_reducible first | exact blk_drew (fin_put (by omega) HM3.out.b0 HM3.out.b1 _ _ _ _ _ _ _ _ _ _).1 | exact (fin_put (by omega) HM3.out.b0 HM3.out.b1 _ _ _ _ _ _ _ _ _ _).1)
            all_goals try (case p2_3 => with_reducible first | exact blk_drew (fin_put (by omega) HM3.out.b0 HM3.out.b1 _ _ _ _ _ _ _ _ _ _).2 | exact (fin_put (by omega) HM3.out.b0 HM3.out.b1 _ _ _ _ _ _ _ _ _ _).2)
            all_goals refine ⟨_, _, _, rfl, Kd.R_nil _ _ _ _ _, Kd.R_nil _ _ _ _ _, Kd.R_nil _ _ _ _ _, ?_⟩
            all_goals with_reducible first | exact (fin_below HM3.out.bel (Nat.le_refl _) (by omega) _ _ _ _ _ _ _ _ _ _).drew | exact (fin_below HM3.out.bel (Nat.le_refl _) (by omega) _ _ _ _ _ _ _ _ _ _)
      · have hbq : (b == 1) = false := by simpa using hb1
        by_cases hb2 : b = 2
        · subst hb2
          have hD := H.out
          simp only [content_Decode.g, if_neg hb1, if_true] at hD
          have hNlt : ((t.length : Int) + 1) < 4398046511104 := by omega
          have hN0 : (0 : Int) ≤ ((t.length : Int) + 1) := by omega
          generalize hNe : ((t.length : Int) + 1) = N at hD hNlt hN0
          have HN := Aside0.mk hNe
          obtain ⟨⟨n1, t1, q1⟩, e1⟩ : ∃ x, iRd t false N = x := ⟨_, rfl⟩
          have g1 := iRd_range t false N hN0 hNlt
          have k1 := iRd_len t false N
          rw [e1] at g1 k1
          simp only at g1 k1
          obtain ⟨n, rfl⟩ : ∃ n : Nat, n1 = (n : Int) := ⟨n1.toNat, by omega⟩
          obtain ⟨⟨con, ok1, t2, q2⟩, e2⟩ : ∃ x, eLoop n true [] t1 q1 = x := ⟨_, rfl⟩
          have k2 := eLoop_len n true [] t1 q1
          rw [e2] at k2
          simp only [List.length_nil] at k2
          obtain ⟨⟨m1, t3, q3⟩, e3⟩ : ∃ x, iRd t2 q2 N = x := ⟨_, rfl⟩
          have g3 := iRd_range t2 q2 N hN0 hNlt
          have k3 := iRd_len t2 q2 N
          rw [e3] at g3 k3
          simp only at g3 k3
          obtain ⟨m, rfl⟩ : ∃ m : Nat, m1 = (m : Int) := ⟨m1.toNat, by omega⟩
          obtain ⟨⟨ord, ok2, t4, q4⟩, e4⟩ : ∃ x, lLoop m ok1 [] t3 q3 = x := ⟨_, rfl⟩
          have k4 := lLoop_len m ok1 [] t3 q3
          rw [e4] at k4
          simp only [List.length_nil] at k4
          obtain ⟨⟨nx, t5, q5⟩, e5⟩ : ∃ x, iRd t4 q4 N = x := ⟨_, rfl⟩
          have g5 := iRd_range t4 q4 N hN0 hNlt
          have k5 := iRd_len t4 q4 N
          rw [e5] at g5 k5
          simp only at g5 k5
          obtain ⟨⟨⟨hn, hp⟩, is, t6, q6⟩, e6⟩ : ∃ x, vRd t5 q5 = x := ⟨_, rfl⟩
          have k6 := vRd_len t5 q5
          rw [e6] at k6
          simp only at k6
          have eS : sRd t N = (⟨con, ord, nx, ⟨hn, hp⟩⟩, ok2 && is && decide ((if q6 = true then 0 else t6.length) = 0)) := by
            simp only [sRd, e1, Int.toNat_natCast, e2, e3, e4, e5, e6]
          rw [eS] at hD
          simp only at hD
          have HD := Aside0.mk hD
          have HC1 := Aside0.mk (read_Int (w.heap.size + 2) t false N wr HM.out.rd (by omega) hN0 hNlt)
          rw [e1] at HC1
          simp only at HC1
          have E2 := Aside0.mk e2
          have E3 := Aside0.mk e3
          have E4 := Aside0.mk e4
          have E5 := Aside0.mk e5
          have E6 := Aside0.mk e6
          clear hD eS e1 e2 e3 e4 e5 e6 H
          go_upto_block 1 with (go_at_call 97; (with_reducible refine HC1.out.mono ?_); rintro e w2 ⟨rfl, hR, hg⟩; have HM2 := Aside0.mk (HM.out.grown hR hg); clear hR hg HC1)
          go_cut [10] (fun s10 wx => ∃ v u, s10 = .bool ok1 ∧ Aside0 (SumSt w wx v u con [] 0 0 0 t2 q2))
          case first =>
            go_wp2_with fail
            go_loopw [11, 10] (fun s11 s10 wq => ∃ (k : Nat) (ok : Bool) (v u : Value) (acc : List S32) (l : List Int) (bad : Bool), s11 = .int .i64 k ∧ s10 = .bool ok ∧ Aside0 (SumSt w wq v u acc [] 0 0 0 l bad) ∧ Aside0 (eLoop k ok acc l bad = (con, ok1, t2, q2)) ∧ Aside0 (acc.length + k ≤ n ∧ l.length ≤ t.length))
              (fun s11 _ _ => (intOf s11).toNat)
            case atStart => exact ⟨n, true, _, _, [], t1, q1, rfl, rfl, HM2, E2, ⟨by simp, by omega⟩⟩
            case round =>
              obtain ⟨k, ok, v, u, acc, l, bad, rfl, rfl, HQ, HE, HK⟩ := hrel
              have ltq := HQ.out.lt
              cases k with
              | zero =>
                have he := HE.out
                simp only [eLoop, Prod.mk.injEq] at he
                obtain ⟨rfl, rfl, rfl, rfl⟩ := he
                clear HE
                go_wp2_with fail
                go_meet
                exact ⟨v, u, rfl, HQ⟩
              | succ k =>
                cases ok
                · have he := HE.out
                  simp only [eLoop, Bool.false_eq_true, if_false, Prod.mk.injEq] at he
                  obtain ⟨rfl, rfl, rfl, rfl⟩ := he
                  clear HE
                  go_wp2_with fail
                  go_meet
                  exact ⟨v, u, rfl, HQ⟩
                · have he := HE.out
                  simp only [eLoop, if_true] at he
                  have HCE := Aside0.mk (read_Entry (w.heap.size + 2) l bad _ HQ.out.rd (by have := HK.out; omega))
                  have kl := eRd_len l bad
                  obtain ⟨⟨⟨⟨⟨en, ep⟩, eq, es⟩, em⟩, is', l', bad'⟩, hu⟩ : ∃ u, eRd l bad = u := ⟨_, rfl⟩
                  rw [hu] at HCE he kl
                  simp only at HCE he kl
                  have HE2 := Aside0.mk he
                  have HKL := Aside0.mk kl
                  have hkb : (k : Int) < 4398046511104 := by have := HK.out; omega
                  clear he HE hu kl
                  go_wp2_with (first
                    | (go_at_call 95; (with_reducible refine HCE.out.mono ?_); rintro e w2 ⟨vm, rfl, hm, hR, hg⟩; obtain ⟨Am, cm, rfl⟩ := Kd.R_slice hm; have HM2 := Aside0.mk (HQ.out.grown hR hg); have HV2 := Aside0.mk (show Kd.R (Kd.int .u8) 5 w2 w.heap.size (fun k => w.heap.size + 3 < k ∧ some k ≠ v.ownBlock) (.slice Am em.length cm) em from Kd.R_lower (Kd.R_mono (Kd.R_bound hm) (fun k hk => ⟨by have := hk.1; omega, fun e2 => by have h7 := Kd.R_lt HQ.out.rv k e2.symm; have := hk.1; omega⟩)) (by omega)); obtain ⟨hs0, hs1, hs2, hs3, hs4, hf0, hf1, hf2, hf3, hf4, hsl⟩ := blk5 HM2.out.b3; clear hm hR hg HCE)
                    | ((with_reducible refine gate_builtin (b := .append) (xs := #[.tmp 67, .tmp 69]) rfl ?_); at_builtin; go_loud (refine Kd.R_append k32 (w0 := w) w.heap.size rfl (.tmp 67) (.tmp 69) 22 32 (.agg zE) 56 rfl Try.underlying22 info32 rfl (by decide) (by omega) v acc (⟨⟨⟨en, ep⟩, eq, es⟩, em⟩ : S32) [.int .u64 en, .int .i64 ep, .int .u64 eq, .int .i64 es, .slice Am em.length cm] (fun k => w.heap.size + 3 < k) (fun k => w.heap.size + 3 < k ∧ some k ≠ v.ownBlock) rfl ?aX ?aP (fun _ hk => hk) ?aF ?aO ?aB ?aS ?aL ?_; (case aX => simp [Act.eval, World.size_alloc]); (case aP => exact k32_mkM _ _ _ (⟨⟨⟨en, ep⟩, eq, es⟩, em⟩ : S32) (Kd.R_alloc HV2.out _)); (case aF => (intro k hk; have := HM2.out.lt; simp only [World.size_alloc] at hk; omega)); (case aO => exact Kd.R_alloc HM2.out.rv _); (case aB => exact HM2.out.bel.alloc (by have := HM2.out.lt; omega) _); (case aS => (have := HM2.out.lt; simp only [World.size_alloc]; omega)); (case aL => (have := HK.out; omega)); intro v1 w1 ho hb hg hat; obtain ⟨A1, cc1, rfl⟩ := Kd.R_slice ho; have hP := SumSt.pushV HM2.out (Below.alloc (Below.refl _ _) (Nat.le_refl _) _) hg ho hb; have HP := Aside0.mk hP.1; obtain ⟨hz0, hz1, hz2', hz3, hz4, hd0, hd1, hd2, hd3, hd4, hzl⟩ := blk5 hP.2; clear hP ho hb hg hat)))
                  refine ⟨⟨k, is', _, u, acc ++ [(⟨⟨⟨en, ep⟩, eq, es⟩, em⟩ : S32)], l', bad', rfl, rfl, ⟨by have h7 := HP.out; rw [List.length_append] at h7; exact h7⟩, HE2, ⟨by have := HK.out; rw [List.length_append, List.length_singleton]; omega, by have := HK.out; have := HKL.out; omega⟩⟩, by simp [intOf]⟩
          case rest =>
            obtain ⟨v, u, rfl, HQ⟩ := hcut
            have ltq := HQ.out.lt
            have HC3 := Aside0.mk (read_Int (w.heap.size + 2) t2 q2 N wc HQ.out.rd (by omega) hN0 hNlt)
            rw [E3.out] at HC3
            simp only at HC3
            go_upto_block 3 with (go_at_call 97; (with_reducible refine HC3.out.mono ?_); rintro e w2 ⟨rfl, hR, hg⟩; have HM2 := Aside0.mk (HQ.out.grown hR hg); clear hR hg HC3)
            go_cut [10] (fun s10 wx => ∃ v u, s10 = .bool ok2 ∧ Aside0 (SumSt w wx v u con ord 0 0 0 t4 q4))
            case first =>
              go_wp2_with fail
              go_loopw [14, 10] (fun s11 s10 wq => ∃ (k : Nat) (ok : Bool) (v u : Value) (acc : List S27) (l : List Int) (bad : Bool), s11 = .int .i64 k ∧ s10 = .bool ok ∧ Aside0 (SumSt w wq v u con acc 0 0 0 l bad) ∧ Aside0 (lLoop k ok acc l bad = (ord, ok2, t4, q4)) ∧ Aside0 (acc.length + k ≤ m ∧ l.length ≤ t.length))
                (fun s11 _ _ => (intOf s11).toNat)
              case atStart => exact ⟨m, ok1, _, _, [], t3, q3, rfl, rfl, HM2, E4, ⟨by simp, by omega⟩⟩
              case round =>
                obtain ⟨k, ok, v, u, acc, l, bad, rfl, rfl, HQ, HE, HK⟩ := hrel
                have ltq := HQ.out.lt
                cases k with
                | zero =>
                  have he := HE.out
                  simp only [lLoop, Prod.mk.injEq] at he
                  obtain ⟨rfl, rfl, rfl, rfl⟩ := he
                  clear HE
                  go_wp2_with fail
                  go_meet
                  exact ⟨v, u, rfl, HQ⟩
                | succ k =>
                  cases ok
                  · have he := HE.out
                    simp only [lLoop, Bool.false_eq_true, if_false, Prod.mk.injEq] at he
                    obtain ⟨rfl, rfl, rfl, rfl⟩ := he
                    clear HE
                    go_wp2_with fail
                    go_meet
                    exact ⟨v, u, rfl, HQ⟩
                  · have he := HE.out
                    simp only [lLoop, if_true] at he
                    have HCE := Aside0.mk (read_Label (w.heap.size + 2) l bad _ HQ.out.rd (by have := HK.out; omega))
                    have kl := lRd_len l bad
                    obtain ⟨⟨⟨⟨en, ep⟩, eq, es⟩, is', l', bad'⟩, hu⟩ : ∃ u, lRd l bad = u := ⟨_, rfl⟩
                    rw [hu] at HCE he kl
                    simp only at HCE he kl
                    have HE2 := Aside0.mk he
                    have HKL := Aside0.mk kl
                    have hkb : (k : Int) < 4398046511104 := by have := HK.out; omega
                    clear he HE hu kl
                    go_wp2_with (first
                      | (go_at_call 98; (with_reducible refine HCE.out.mono ?_); rintro e w2 ⟨rfl, hR, hg⟩; have HM2 := Aside0.mk (HQ.out.grown hR hg); obtain ⟨hs0, hs1, hs2, hs3, hs4, hf0, hf1, hf2, hf3, hf4, hsl⟩ := blk5 HM2.out.b3; clear hR hg HCE)
                      | ((with_reducible refine gate_builtin (b := .append) (xs := #[.tmp 90, .tmp 92]) rfl ?_); at_builtin; refine Kd.R_append k27 (w0 := w) w.heap.size rfl (.tmp 90) (.tmp 92) 41 27 (.agg #[.int .u64 0, .int .i64 0, .int .u64 0, .int .i64 0]) 32 rfl Try.underlying41 info27 rfl (by decide) (by omega) u acc (⟨⟨en, ep⟩, eq, es⟩ : S27) [.int .u64 en, .int .i64 ep, .int .u64 eq, .int .i64 es] (fun k => w.heap.size + 3 < k) (fun k => w.heap.size + 3 < k ∧ some k ≠ u.ownBlock) rfl ?aX ?aP (fun _ hk => hk) ?aF ?aO ?aB ?aS ?aL ?_; (case aX => simp [Act.eval, World.size_alloc]); (case aP => exact k27_mkM _ _ _ (⟨⟨en, ep⟩, eq, es⟩ : S27)); (case aF => (intro k hk; have := HM2.out.lt; simp only [World.size_alloc] at hk; omega)); (case aO => exact Kd.R_alloc HM2.out.ru _); (case aB => exact HM2.out.bel.alloc (by have := HM2.out.lt; omega) _); (case aS => (have := HM2.out.lt; simp only [World.size_alloc]; omega)); (case aL => (have := HK.out; omega)); intro v1 w1 ho hb hg hat; obtain ⟨A1, cc1, rfl⟩ := Kd.R_slice ho; have hP := SumSt.pushU HM2.out (Below.alloc (Below.refl _ _) (Nat.le_refl _) _) hg ho hb; have HP := Aside0.mk hP.1; obtain ⟨hz0, hz1, hz2', hz3, hz4, hd0, hd1, hd2, hd3, hd4, hzl⟩ := blk5 hP.2; clear hP ho hb hg hat))
                    refine ⟨⟨k, is', _, _, acc ++ [(⟨⟨en, ep⟩, eq, es⟩ : S27)], l', bad', rfl, rfl, ⟨by have h7 := HP.out; rw [List.length_append] at h7; exact h7⟩, HE2, ⟨by have := HK.out; rw [List.length_append, List.length_singleton]; omega, by have := HK.out; have := HKL.out; omega⟩⟩, by simp [intOf]⟩
            case rest =>
              clear ltq HQ
              obtain ⟨v, u, rfl, HQ⟩ := hcut
              have ltq := HQ.out.lt
              have HC5 := Aside0.mk (read_Int (w.heap.size + 2) t4 q4 N _ HQ.out.rd (by omega) hN0 hNlt)
              rw [E5.out] at HC5
              simp only at HC5
              obtain ⟨Av, cv, rfl⟩ := Kd.R_slice HQ.out.rv
              obtain ⟨Au, cu, rfl⟩ := Kd.R_slice HQ.out.ru
              go_upto_region 24 with (go_at_call 97; (with_reducible refine HC5.out.mono ?_); rintro e w2 ⟨rfl, hR, hg⟩; have HM2 := Aside0.mk (HQ.out.grown hR hg); obtain ⟨hs0, hs1, hs2, hs3, hs4, hf0, hf1, hf2, hf3, hf4, hsl⟩ := blk5 HM2.out.b3; clear hR hg HC5)
              have HM3 := Aside0.mk (HM2.out.set3 2 (.int .i64 nx) (nx' := nx) (hn' := 0) (hp' := 0) rfl rfl rfl)
              clear hs0 hs1 hs2 hs3 hs4 hf0 hf1 hf2 hf3 hf4 hsl HM2
              generalize w2.setCell ⟨w.heap.size + 3, 2, none⟩ (.int .i64 nx) = w3 at HM3 ⊢
              have lt3 := HM3.out.lt
              have HC6 := Aside0.mk (read_View (w.heap.size + 2) t5 q5 w3 HM3.out.rd (by omega))
              rw [E6.out] at HC6
              simp only at HC6
              go_upto_region 26 with (go_at_call 99; (with_reducible refine HC6.out.mono ?_); rintro e w4 ⟨rfl, hR, hg⟩; have HM4 := Aside0.mk (HM3.out.grown hR hg); obtain ⟨hs0, hs1, hs2, hs3, hs4, hf0, hf1, hf2, hf3, hf4, hsl⟩ := blk5 HM4.out.b3; clear hR hg HC6)
              have HM5 := Aside0.mk (((HM4.out.set3 3 (.int .u64 hn) (nx' := nx) (hn' := hn) (hp' := 0) rfl rfl rfl).set3 4 (.int .i64 hp) (nx' := nx) (hn' := hn) (hp' := hp) rfl rfl rfl).below (Below.alloc (Below.refl _ _) (Nat.le_refl _) (.cells #[.int .u64 hn, .int .i64 hp] 25)))
              clear hs0 hs1 hs2 hs3 hs4 hf0 hf1 hf2 hf3 hf4 hsl HM4 HM3 HQ ltq lt3
              generalize ((w4.setCell ⟨w.heap.size + 3, 3, none⟩ (.int .u64 hn)).setCell ⟨w.heap.size + 3, 4, none⟩ (.int .i64 hp)).alloc (.cells #[.int .u64 hn, .int .i64 hp] 25) = w5 at HM5 ⊢
              have HLF := Aside0.mk (read_Left (w.heap.size + 2) t6 q6 w5 HM5.out.rd)
              have eL : (if q6 = true then (0 : Int) else (t6.length : Int)) = (((if q6 = true then 0 else t6.length : Nat)) : Int) := by cases q6 <;> simp
              rw [eL] at HLF
              clear eL
              generalize (if q6 = true then 0 else t6.length : Nat) = L at HLF HD
              go_cut [120] (fun s120 wx => ∃ (B : Bool) (Av : Option Addr) (cv : Nat) (Au : Option Addr) (cu : Nat), s120 = .bool B ∧ Aside0 (SumSt w wx (.slice Av con.length cv) (.slice Au ord.length cu) con ord nx hn hp t6 q6) ∧ Aside0 (if B = true then r = (2, noE, ⟨con, ord, nx, ⟨hn, hp⟩⟩, 0) else r = (0, noE, noS, 3)))
              case first =>
                have HF := Aside0.mk (fun (e : (ok2 && is && decide (L = 0)) = false) => (show r = (0, noE, noS, 3) from by have h := HD.out; rw [if_neg (by rw [e]; simp)] at h; injection h with h; exact h.symm))
                cases ok2
                · go_wp2_with fail
                  go_meet
                  exact ⟨false, _, _, _, _, rfl, HM5, ⟨by simpa using HF.out rfl⟩⟩
                cases is
                · go_wp2_with fail
                  go_meet
                  exact ⟨false, _, _, _, _, rfl, HM5, ⟨by simpa using HF.out rfl⟩⟩
                by_cases hL : L = 0
                · subst hL
                  have hD := HD.out
                  simp only [Bool.and_self, decide_true, if_true] at hD
                  obtain ⟨rb, hrb, hrr⟩ := Option.bind_eq_some_iff.1 hD
                  have HRR := Aside0.mk hrr
                  have HRB := Aside0.mk hrb
                  clear hD hrr hrb HD HF
                  have h0 := HM5.out.rv
                  obtain ⟨-, hv2, hv3⟩ := Kd.R_reads' HM5.out.rv
                  obtain ⟨-, hu2, hu3⟩ := Kd.R_reads' HM5.out.ru
                  have HCR := Aside0.mk (content_Right.calls k Av cv con Au cu ord nx hn hp rb w5 hv3 hv2 hu3 hu2 HRB.out)
                  clear h0 hv2 hv3 hu2 hu3
                  obtain ⟨hs0, hs1, hs2, hs3, hs4, hf0, hf1, hf2, hf3, hf4, hsl⟩ := blk5 HM5.out.b3
                  go_wp2_with (first
                    | (go_at_call 96; (with_reducible refine HLF.out.mono ?_); rintro e w6 ⟨rfl, rfl⟩)
                    | (go_at_call 53; (with_reducible refine HCR.out.mono ?_); rintro e w6 ⟨rfl, hb6⟩; have HM6 := Aside0.mk (HM5.out.below hb6); clear hb6))
                  go_meet
                  refine ⟨rb, _, _, _, _, rfl, HM6, ⟨?_⟩⟩
                  have h := HRR.out
                  cases rb
                  · simp only [Bool.false_eq_true, if_false, Option.some.injEq] at h ⊢
                    exact h.symm
                  · simp only [if_true, Option.some.injEq] at h ⊢
                    exact h.symm
                · have hLp : 0 < L := by omega
                  go_wp2_with (go_at_call 96; (with_reducible refine HLF.out.mono ?_); rintro e w6 ⟨rfl, rfl⟩)
                  go_meet
                  exact ⟨false, _, _, _, _, rfl, HM5, ⟨by simpa using HF.out (by simp [hL])⟩⟩
              case rest =>
                clear HD HM5 HLF
                obtain ⟨B, Av, cv, Au, cu, rfl, HM3, HB⟩ := hcut
                obtain ⟨hs0, hs1, hs2, hs3, hs4, hf0, hf1, hf2, hf3, hf4, hsl⟩ := blk5 HM3.out.b3
                obtain ⟨he0, he1, he2, he3, he4, hg0, hg1, hg2, hg3, hg4, hel⟩ := blk5 HM3.out.b0
                obtain ⟨hr0, hr1, hr2, hr3, hr4, hq0, hq1, hq2, hq3, hq4, hrl⟩ := blk5 HM3.out.b1
                cases B
                · have hB := HB.out
                  simp only [Bool.false_eq_true, if_false] at hB
                  subst hB
                  clear HB
                  go_wp2_with fail
                  all_goals refine bodyPost_ret (results_tcct rfl _ _ w.heap.size (w.heap.size + 1) 32 53 zE zS (0, 0) (0, 0) _ _ rfl ?p1_4 rfl ?p2_4 Try.underlying32 rfl (by kernel_rfl) Try.underlying53 rfl (by kernel_rfl)) rfl ?p3_4
                  all_goals try (case p1_4 => with_reducible first | exact blk_drew (fin_put (by omega) HM3.out.b0 HM3.out.b1 _ _ _ _ _ _ _ _ _ _).1 | exact (fin_put (by omega) HM3.out.b0 HM3.out.b1 _ _ _ _ _ _ _ _ _ _).1)
                  all_goals try (case p2_4 => with_reducible first | exact blk_drew (fin_put (by omega) HM3.out.b0 HM3.out.b1 _ _ _ _ _ _ _ _ _ _).2 | exact (fin_put (by omega) HM3.out.b0 HM3.out.b1 _ _ _ _ _ _ _ _ _ _).2)
                  all_goals refine ⟨_, _, _, rfl, Kd.R_nil _ _ _ _ _, Kd.R_nil _ _ _ _ _, Kd.R_nil _ _ _ _ _, ?_⟩
                  all_goals try (with_reducible first | exact (fin_below HM3.out.bel (Nat.le_refl _) (by omega) _ _ _ _ _ _ _ _ _ _).drew | exact (fin_below HM3.out.bel (Nat.le_refl _) (by omega) _ _ _ _ _ _ _ _ _ _))
                · have hB := HB.out
                  simp only [if_true] at hB
                  subst hB
                  clear HB
                  go_wp2_with fail
                  have hmo : Try.prog.follows .mixedOrders = true := by kernel_rfl
                  go_region
                  all_goals go_wp2_with fail
                  all_goals refine bodyPost_ret (results_tcct rfl _ _ w.heap.size (w.heap.size + 1) 32 53 zE #[.slice Av con.length cv, .slice Au ord.length cu, .int .i64 nx, .int .u64 hn, .int .i64 hp] (0, 0) (0, 0) _ _ rfl ?p1_5 rfl ?p2_5 Try.underlying32 rfl (by kernel_rfl) Try.underlying53 rfl (by kernel_rfl)) rfl ?p3_5
                  all_goals try (case p1_5 => with_reducible first | exact blk_drew (fin_put (by omega) HM3.out.b0 HM3.out.b1 _ _ _ _ _ _ _ _ _ _).1 | exact (fin_put (by omega) HM3.out.b0 HM3.out.b1 _ _ _ _ _ _ _ _ _ _).1)
                  all_goals try (case p2_5 => with_reducible first | exact blk_drew (fin_put (by omega) HM3.out.b0 HM3.out.b1 _ _ _ _ _ _ _ _ _ _).2 | exact (fin_put (by omega) HM3.out.b0 HM3.out.b1 _ _ _ _ _ _ _ _ _ _).2)
                  all_goals refine ⟨_, _, _, rfl, Kd.R_nil _ _ _ _ _, ?_, ?_, ?_⟩
                  all_goals try (with_reducible first | exact (fin_below HM3.out.bel (Nat.le_refl _) (by omega) _ _ _ _ _ _ _ _ _ _).drew | exact (fin_below HM3.out.bel (Nat.le_refl _) (by omega) _ _ _ _ _ _ _ _ _ _))
                  all_goals with_reducible first | exact Kd.R_drew (fin_R HM3.out.rv (by omega) (by omega) _ _ _ _ _ _ _ _ _ _) | exact fin_R HM3.out.rv (by omega) (by omega) _ _ _ _ _ _ _ _ _ _ | exact Kd.R_drew (fin_R HM3.out.ru (by omega) (by omega) _ _ _ _ _ _ _ _ _ _) | exact fin_R HM3.out.ru (by omega) (by omega) _ _ _ _ _ _ _ _ _ _
        · have hbq2 : (b == 2) = false := by simpa using hb2
          have hD := H.out
          simp only [content_Decode.g, if_neg hb1, if_neg hb2, Option.some.injEq] at hD
          subst hD
          have HM3 := HM
          clear H HM
          obtain ⟨hs0, hs1, hs2, hs3, hs4, hf0, hf1, hf2, hf3, hf4, hsl⟩ := blk5 HM3.out.b3
          obtain ⟨he0, he1, he2, he3, he4, hg0, hg1, hg2, hg3, hg4, hel⟩ := blk5 HM3.out.b0
          obtain ⟨hr0, hr1, hr2, hr3, hr4, hq0, hq1, hq2, hq3, hq4, hrl⟩ := blk5 HM3.out.b1
          go_wp2_with fail
          all_goals refine bodyPost_ret (results_tcct rfl _ _ w.heap.size (w.heap.size + 1) 32 53 zE zS (0, 0) (0, 0) _ _ rfl ?p1_6 rfl ?p2_6 Try.underlying32 rfl (by kernel_rfl) Try.underlying53 rfl (by kernel_rfl)) rfl ?p3_6
          all_goals try (case p1_6 => with_reducible first | exact blk_drew (fin_put (by omega) HM3.out.b0 HM3.out.b1 _ _ _ _ _ _ _ _ _ _).1 | exact (fin_put (by omega) HM3.out.b0 HM3.out.b1 _ _ _ _ _ _ _ _ _ _).1)
          all_goals try (case p2_6 => with_reducible first | exact blk_drew (fin_put (by omega) HM3.out.b0 HM3.out.b1 _ _ _ _ _ _ _ _ _ _).2 | exact (fin_put (by omega) HM3.out.b0 HM3.out.b1 _ _ _ _ _ _ _ _ _ _).2)
          all_goals refine ⟨_, _, _, rfl, Kd.R_nil _ _ _ _ _, Kd.R_nil _ _ _ _ _, Kd.R_nil _ _ _ _ _, ?_⟩
          all_goals try (with_reducible first | exact (fin_below HM3.out.bel (Nat.le_refl _) (by omega) _ _ _ _ _ _ _ _ _ _).drew | exact (fin_below HM3.out.bel (Nat.le_refl _) (by omega) _ _ _ _ _ _ _ _ _ _))
end Go.Proofs.Ytioooiflpabngaa.PAll
end
section
namespace Go.Proofs.Ytioooiflpabngaa.PAll
open Go.RowKit Go.Proofs.YtioooiflpabngaaW.PrintWords Go.Proofs.YtioooiflpabngaaW.PrintLast Go.Proofs.YtioooiflpabngaaW.PrintMore
attribute [local go_sem] max2_int min2_int max_two min_two max_three min_three max_four min_four   -- for this text's walks alone
set_option linter.unusedVariables false
set_option linter.unusedSimpArgs false
def folkmootref04_Encode.f (k : Nat) (a0_0 : Int) (a0_1 : Int) : Option (List Int) := (folkmootref02_Uint.f k a0_0).bind fun t615 => (if t615.length < 140737488355328 then (some (t615 ++ [(a0_1) % 256])) else (none))
set_option maxHeartbeats 8000000 in
set_option maxRecDepth 100000 in
theorem folkmootref04_Encode.calls (k : Nat) (a0_0 : Int) (a0_1 : Int) (r : List Int) (w : World) (h : folkmootref04_Encode.f k a0_0 a0_1 = some r) :
  Calls Try.prog 109 #[.agg #[.int .u64 a0_0, .int .i64 a0_1]] w fun e w' => ∃ v0_ : Value, e = .returned (v0_) ∧ Kd.R (Kd.int .u8) 5 w' w.heap.size (fun _ => True) v0_ r ∧ Below w.heap.size w w' := by
 have hu25 := Try.underlying25
 have HB := Aside0.mk (Below.refl w.heap.size w)
 have H : ((folkmootref02_Uint.f k a0_0).bind fun t615 => (if t615.length < 140737488355328 then (some (t615 ++ [(a0_1) % 256])) else (none))) = some r := h
 clear h
 replace H := Option.bind_eq_some_iff.mp H
 obtain ⟨t615, A20, H⟩ := H
 replace H : (if t615.length < 140737488355328 then (some (t615 ++ [(a0_1) % 256])) else (none)) = some r := H
 have A2 := Aside0.mk A20
 clear A20
 by_cases c3 : t615.length < 140737488355328
 ·
  rw [if_pos c3] at H
  have LMc3 := Aside0.mk c3
  clear c3
  obtain ⟨y618, hy618⟩ : ∃ y_ : List Int, y_ = (t615 ++ [(a0_1) % 256]) := ⟨_, rfl⟩
  replace H : (some y618) = some r := by first | (rw [hy618]; with_reducible exact H) | (have H2_ := (Option.bind_some _ _).symm.trans H; rw [hy618]; with_reducible exact H2_) | (have H2_ := (Option.bind_some _ _).symm.trans H; with_reducible exact H2_) | with_reducible exact H | (rw [hy618]; exact H) | exact H
  have Ny618 := Aside0.mk hy618
  clear hy618
  obtain rfl := Option.some.inj H
  go_enter Try.func109, Try.ntmps109
  go_wp2_with (first | ((with_reducible refine gate_dst (N := 1) rfl ?_); refine box_event ?hg (N := 1) ?hd (cs := #[.int .u64 a0_0, .int .i64 a0_1]) (t := 25) ?hr ?_; (case hd => rfl); (case hg => rfl); (case hr => first | (go_simp; done) | (go_simp; rfl)); intro gb614 hg w4 hbox hb; have n0_ := Aside0.mk (below_step zb_ hb); have n1_ := Aside0.mk (hbox); have n2_ := Aside0.mk ((by rw [hg]; exact (below_size zb_) : w.heap.size ≤ gb614)); have n3_ := Aside0.mk ((by rw [hg]; exact (below_size zb_) : w.heap.size ≤ gb614)); clear HB; have HB := n0_; have BK614 := n1_; have GW614 := n2_; have GE614 := n3_; clear n0_ n1_ n2_ n3_; clear hb hbox hg; have hcz5_0 : w4.cell? ⟨gb614, 0, none⟩ = some (.int .u64 a0_0) := (blk_cell BK614.out 0).trans rfl; have hcz5_1 : w4.cell? ⟨gb614, 1, none⟩ = some (.int .i64 a0_1) := (blk_cell BK614.out 1).trans rfl; have hfz5_0 := blk_frozen BK614.out 0; have hfz5_1 := blk_frozen BK614.out 1) | ((with_reducible refine gate_callee (f := 107) rfl ?_); refine goesL_ (some 6) rfl rfl Try.func107 (by kernel_rfl) rfl #[.int .u64 a0_0] rfl za_ ?_; (with_reducible refine (folkmootref02_Uint.calls k a0_0 t615 _ A2.out).mono ?_); rintro e w6 ⟨v616, rfl, ho0, hb⟩; refine ⟨_, rfl, ?_⟩; have n0_ := Aside0.mk (Kd.R_lower ho0 (below_size zb_)); have n1_ := zk_ BK614 hb; have n2_ := Aside0.mk (below_step zb_ hb); clear BK614; clear HB; have HO617 := n0_; have BK614 := n1_; have HB := n2_; clear n0_ n1_ n2_; (try clear hb); (try clear hb2); (try clear hk); (try clear hi); (try clear ho0); have hcz7_0 : w6.cell? ⟨gb614, 0, none⟩ = some (.int .u64 a0_0) := (blk_cell BK614.out 0).trans rfl; have hcz7_1 : w6.cell? ⟨gb614, 1, none⟩ = some (.int .i64 a0_1) := (blk_cell BK614.out 1).trans rfl; have hfz7_0 := blk_frozen BK614.out 0; have hfz7_1 := blk_frozen BK614.out 1) | ((with_reducible refine gate_builtin (b := .append) (xs := #[.tmp 7, .tmp 11]) rfl ?_); at_builtin; refine Kd.R_append (Kd.int .u8) (w0 := w) w.heap.size rfl (.tmp 7) (.tmp 11) 30 5 (.int .u8 0) 1 rfl Try.underlying30 info5 rfl (by decide) (by omega) v616 t615 ((a0_1) % 256) [.int .u8 ((a0_1) % 256)] (fun _ => True) (fun _ => False) rfl rfl ?aP (fun _ hk => hk.elim) ?aF ?aO ?aB ?aS ?aL ?_; (case aP => exact rfl); (case aB => exact zb_); (case aF => exact (fun _ _ => trivial)); (case aO => exact (zr_ HO617)); (case aS => exact (below_size zb_)); (case aL => have := LMc3.out; omega); intro v619 w8 ho hb hg hat; rw [← Ny618.out] at ho; have n0_ := Aside0.mk (blk_grown (g := gb614) (o := .cells #[.int .u64 a0_0, .int .i64 a0_1] 25 (0, 0)) (by (with_reducible repeat (first | refine blk_drewN ?_ _ | refine blk_drew ?_ | refine blk_alloc ?_ _)); exact BK614.out) hg (Kd.R_ne HO617.out BK614.out (by decide))); have n1_ := Aside0.mk (hb); have n2_ := Aside0.mk (ho); clear BK614; clear HB; clear HO617; have BK614 := n0_; have HB := n1_; have HO620 := n2_; clear n0_ n1_ n2_; clear ho hb hg hat))
  go_ret
  exact ⟨_, by first | rfl | (simp [errW_none, errW_some] <;> rfl) | (simp [*, errW_none, errW_some] <;> rfl), by (with_reducible repeat (first | apply Kd.R_alloc | apply Kd.R_drewN | apply Kd.R_drew)); exact HO620.out, by repeat (first | (with_reducible first | exact HB.out | apply below_alloc | apply pw_below_drewN | apply below_drew1 | refine below_set ?_ GE614.out) | exact HB.out)⟩
 ·
  rw [if_neg c3] at H
  exact absurd H (by simp)
end Go.Proofs.Ytioooiflpabngaa.PAll
end
section
namespace Go.Proofs.Ytioooiflpabngaa.PAll
open Go.RowKit Go.Proofs.YtioooiflpabngaaW.PrintWords Go.Proofs.YtioooiflpabngaaW.PrintLast Go.Proofs.YtioooiflpabngaaW.PrintMore
attribute [local go_sem] max2_int min2_int max_two min_two max_three min_three max_four min_four   -- for this text's walks alone
set_option linter.unusedVariables false
set_option linter.unusedSimpArgs false
def folkmootref05_Encode.f (k : Nat) (a0_0 : Int) (a0_1 : Int) (a0_2 : Int) (a0_3 : Int) : Option (List Int) := (folkmootref04_Encode.f k a0_0 a0_1).bind fun t622 => ((folkmootref02_Uint.f k a0_2).bind fun t625 => (if t622.length + t625.length < 140737488355328 then ((some (t622 ++ t625 : List Int)).bind fun y628 => (if y628.length < 140737488355328 then (some (y628 ++ [(a0_3) % 256])) else (none))) else (none)))
set_option maxHeartbeats 8000000 in
set_option maxRecDepth 100000 in
theorem folkmootref05_Encode.calls (k : Nat) (a0_0 : Int) (a0_1 : Int) (a0_2 : Int) (a0_3 : Int) (r : List Int) (w : World) (h : folkmootref05_Encode.f k a0_0 a0_1 a0_2 a0_3 = some r) :
  Calls Try.prog 108 #[.agg #[.int .u64 a0_0, .int .i64 a0_1, .int .u64 a0_2, .int .i64 a0_3]] w fun e w' => ∃ v0_ : Value, e = .returned (v0_) ∧ Kd.R (Kd.int .u8) 5 w' w.heap.size (fun _ => True) v0_ r ∧ Below w.heap.size w w' := by
 have hu27 := Try.underlying27
 have hu25 := Try.underlying25
 have HB := Aside0.mk (Below.refl w.heap.size w)
 have H : ((folkmootref04_Encode.f k a0_0 a0_1).bind fun t622 => ((folkmootref02_Uint.f k a0_2).bind fun t625 => (if t622.length + t625.length < 140737488355328 then ((some (t622 ++ t625 : List Int)).bind fun y628 => (if y628.length < 140737488355328 then (some (y628 ++ [(a0_3) % 256])) else (none))) else (none)))) = some r := h
 clear h
 replace H := Option.bind_eq_some_iff.mp H
 obtain ⟨t622, A20, H⟩ := H
 replace H : ((folkmootref02_Uint.f k a0_2).bind fun t625 => (if t622.length + t625.length < 140737488355328 then ((some (t622 ++ t625 : List Int)).bind fun y628 => (if y628.length < 140737488355328 then (some (y628 ++ [(a0_3) % 256])) else (none))) else (none))) = some r := H
 have A2 := Aside0.mk A20
 clear A20
 replace H := Option.bind_eq_some_iff.mp H
 obtain ⟨t625, A30, H⟩ := H
 replace H : (if t622.length + t625.length < 140737488355328 then ((some (t622 ++ t625 : List Int)).bind fun y628 => (if y628.length < 140737488355328 then (some (y628 ++ [(a0_3) % 256])) else (none))) else (none)) = some r := H
 have A3 := Aside0.mk A30
 clear A30
 by_cases c4 : t622.length + t625.length < 140737488355328
 ·
  rw [if_pos c4] at H
  have LMc4 := Aside0.mk c4
  clear c4
  obtain ⟨y628, hy628⟩ : ∃ y_ : List Int, y_ = (t622 ++ t625) := ⟨_, rfl⟩
  replace H : (if y628.length < 140737488355328 then (some (y628 ++ [(a0_3) % 256])) else (none)) = some r := by first | (rw [hy628]; with_reducible exact H) | (have H2_ := (Option.bind_some _ _).symm.trans H; rw [hy628]; with_reducible exact H2_) | (have H2_ := (Option.bind_some _ _).symm.trans H; with_reducible exact H2_) | with_reducible exact H | (rw [hy628]; exact H) | exact H
  have Ny628 := Aside0.mk hy628
  clear hy628
  by_cases c5 : y628.length < 140737488355328
  ·
   rw [if_pos c5] at H
   have LMc5 := Aside0.mk c5
   clear c5
   obtain ⟨y631, hy631⟩ : ∃ y_ : List Int, y_ = (y628 ++ [(a0_3) % 256]) := ⟨_, rfl⟩
   replace H : (some y631) = some r := by first | (rw [hy631]; with_reducible exact H) | (have H2_ := (Option.bind_some _ _).symm.trans H; rw [hy631]; with_reducible exact H2_) | (have H2_ := (Option.bind_some _ _).symm.trans H; with_reducible exact H2_) | with_reducible exact H | (rw [hy631]; exact H) | exact H
   have Ny631 := Aside0.mk hy631
   clear hy631
   obtain rfl := Option.some.inj H
   go_enter Try.func108, Try.ntmps108
   go_wp2_with (first | ((with_reducible refine gate_dst (N := 1) rfl ?_); refine box_event ?hg (N := 1) ?hd (cs := #[.int .u64 a0_0, .int .i64 a0_1, .int .u64 a0_2, .int .i64 a0_3]) (t := 27) ?hr ?_; (case hd => rfl); (case hg => rfl); (case hr => first | (go_simp; done) | (go_simp; rfl)); intro gb621 hg w6 hbox hb; have n0_ := Aside0.mk (below_step zb_ hb); have n1_ := Aside0.mk (hbox); have n2_ := Aside0.mk ((by rw [hg]; exact (below_size zb_) : w.heap.size ≤ gb621)); have n3_ := Aside0.mk ((by rw [hg]; exact (below_size zb_) : w.heap.size ≤ gb621)); clear HB; have HB := n0_; have BK621 := n1_; have GW621 := n2_; have GE621 := n3_; clear n0_ n1_ n2_ n3_; clear hb hbox hg; have hcz7_0 : w6.cell? ⟨gb621, 0, none⟩ = some (.int .u64 a0_0) := (blk_cell BK621.out 0).trans rfl; have hcz7_1 : w6.cell? ⟨gb621, 1, none⟩ = some (.int .i64 a0_1) := (blk_cell BK621.out 1).trans rfl; have hcz7_2 : w6.cell? ⟨gb621, 2, none⟩ = some (.int .u64 a0_2) := (blk_cell BK621.out 2).trans rfl; have hcz7_3 : w6.cell? ⟨gb621, 3, none⟩ = some (.int .i64 a0_3) := (blk_cell BK621.out 3).trans rfl; have hfz7_0 := blk_frozen BK621.out 0; have hfz7_1 := blk_frozen BK621.out 1; have hfz7_2 := blk_frozen BK621.out 2; have hfz7_3 := blk_frozen BK621.out 3) | ((with_reducible refine gate_callee (f := 109) rfl ?_); refine goesL_ (some 6) rfl rfl Try.func109 (by kernel_rfl) rfl #[.agg #[.int .u64 a0_0, .int .i64 a0_1]] rfl za_ ?_; (with_reducible refine (folkmootref04_Encode.calls k a0_0 a0_1 t622 _ A2.out).mono ?_); rintro e w8 ⟨v623, rfl, ho0, hb⟩; refine ⟨_, rfl, ?_⟩; have n0_ := Aside0.mk (Kd.R_lower ho0 (below_size zb_)); have n1_ := zk_ BK621 hb; have n2_ := Aside0.mk (below_step zb_ hb); clear BK621; clear HB; have HO624 := n0_; have BK621 := n1_; have HB := n2_; clear n0_ n1_ n2_; (try clear hb); (try clear hb2); (try clear hk); (try clear hi); (try clear ho0); have hcz9_0 : w8.cell? ⟨gb621, 0, none⟩ = some (.int .u64 a0_0) := (blk_cell BK621.out 0).trans rfl; have hcz9_1 : w8.cell? ⟨gb621, 1, none⟩ = some (.int .i64 a0_1) := (blk_cell BK621.out 1).trans rfl; have hcz9_2 : w8.cell? ⟨gb621, 2, none⟩ = some (.int .u64 a0_2) := (blk_cell BK621.out 2).trans rfl; have hcz9_3 : w8.cell? ⟨gb621, 3, none⟩ = some (.int .i64 a0_3) := (blk_cell BK621.out 3).trans rfl; have hfz9_0 := blk_frozen BK621.out 0; have hfz9_1 := blk_frozen BK621.out 1; have hfz9_2 := blk_frozen BK621.out 2; have hfz9_3 := blk_frozen BK621.out 3) | ((with_reducible refine gate_callee (f := 107) rfl ?_); refine goesL_ (some 10) rfl rfl Try.func107 (by kernel_rfl) rfl #[.int .u64 a0_2] rfl za_ ?_; (with_reducible refine (folkmootref02_Uint.calls k a0_2 t625 _ A3.out).mono ?_); rintro e w10 ⟨v626, rfl, ho0, hb⟩; refine ⟨_, rfl, ?_⟩; have n0_ := Aside0.mk (Kd.R_elder' (zr_ HO624) (Kd.R_base ho0) hb); have n1_ := Aside0.mk (Kd.R_lower (Kd.R_new' ho0 (Kd.R_lt (zr_ HO624))) (below_size zb_)); have n2_ := zk_ BK621 hb; have n3_ := Aside0.mk (below_step zb_ hb); clear HO624; clear BK621; clear HB; have HO624 := n0_; have HO627 := n1_; have BK621 := n2_; have HB := n3_; clear n0_ n1_ n2_ n3_; (try clear hb); (try clear hb2); (try clear hk); (try clear hi); (try clear ho0); obtain ⟨Ao12, co12, eo12⟩ := Kd.R_slice HO627.out; subst eo12) | ((with_reducible refine gate_builtin (b := .append) (xs := #[.tmp 7, .tmp 10]) rfl ?_); at_builtin; refine Kd.R_append_rows (Kd.int .u8) (w0 := w) w.heap.size rfl (.tmp 7) (.tmp 10) 30 5 (.int .u8 0) 1 rfl Try.underlying30 info5 rfl (by decide) (by omega) v623 t622 t625 _ _ _ (fun k_ => some k_ ≠ (.slice Ao12 t625.length co12 : Value).ownBlock) (fun _ => False) rfl rfl ?aO ?aR (fun _ _ h => h) (fun _ h => h.elim) ?aF ?aB ?aS ?aL ?_; (case aR => exact zd_ (Kd.R_reads' HO627.out).2.2); (case aB => exact zb_); (case aF => exact (fun k_ hk => Kd.fresh' (Kd.R_lt (zr_ HO627)) k_ hk)); (case aO => exact (by (with_reducible repeat (first | apply Kd.R_alloc | apply Kd.R_drewN | apply Kd.R_drew)); exact Kd.R_mono HO624.out (fun _ hk => hk.2))); (case aS => exact (below_size zb_)); (case aL => have := LMc4.out; omega); intro v629 w11 ho hb hg hat; rw [← Ny628.out] at ho; have n0_ := Aside0.mk (blk_grown (g := gb621) (o := .cells #[.int .u64 a0_0, .int .i64 a0_1, .int .u64 a0_2, .int .i64 a0_3] 27 (0, 0)) (by (with_reducible repeat (first | refine blk_drewN ?_ _ | refine blk_drew ?_ | refine blk_alloc ?_ _)); exact BK621.out) hg (Kd.R_ne HO624.out BK621.out (by decide))); have n1_ := Aside0.mk (Kd.R_after (ok := (fun _ => True)) (zr_ HO627) hg hat); have n2_ := Aside0.mk (hb); have n3_ := Aside0.mk (ho); clear BK621; clear HO627; clear HB; clear HO624; have BK621 := n0_; have HO627 := n1_; have HB := n2_; have HO630 := n3_; clear n0_ n1_ n2_ n3_; clear ho hb hg hat; have hcz13_0 : w11.cell? ⟨gb621, 0, none⟩ = some (.int .u64 a0_0) := (blk_cell BK621.out 0).trans rfl; have hcz13_1 : w11.cell? ⟨gb621, 1, none⟩ = some (.int .i64 a0_1) := (blk_cell BK621.out 1).trans rfl; have hcz13_2 : w11.cell? ⟨gb621, 2, none⟩ = some (.int .u64 a0_2) := (blk_cell BK621.out 2).trans rfl; have hcz13_3 : w11.cell? ⟨gb621, 3, none⟩ = some (.int .i64 a0_3) := (blk_cell BK621.out 3).trans rfl; have hfz13_0 := blk_frozen BK621.out 0; have hfz13_1 := blk_frozen BK621.out 1; have hfz13_2 := blk_frozen BK621.out 2; have hfz13_3 := blk_frozen BK621.out 3) | ((with_reducible refine gate_builtin (b := .append) (xs := #[.tmp 12, .tmp 16]) rfl ?_); at_builtin; refine Kd.R_append (Kd.int .u8) (w0 := w) w.heap.size rfl (.tmp 12) (.tmp 16) 30 5 (.int .u8 0) 1 rfl Try.underlying30 info5 rfl (by decide) (by omega) v629 y628 ((a0_3) % 256) [.int .u8 ((a0_3) % 256)] (fun k_ => some k_ ≠ (.slice Ao12 t625.length co12 : Value).ownBlock) (fun _ => False) rfl rfl ?aP (fun _ hk => hk.elim) ?aF ?aO ?aB ?aS ?aL ?_; (case aP => exact rfl); (case aB => exact zb_); (case aF => exact (fun k_ hk => Kd.fresh' (Kd.R_lt (zr_ HO627)) k_ hk)); (case aO => exact (zr_ HO630)); (case aS => exact (below_size zb_)); (case aL => have := LMc5.out; omega); intro v632 w14 ho hb hg hat; rw [← Ny631.out] at ho; have n0_ := Aside0.mk (blk_grown (g := gb621) (o := .cells #[.int .u64 a0_0, .int .i64 a0_1, .int .u64 a0_2, .int .i64 a0_3] 27 (0, 0)) (by (with_reducible repeat (first | refine blk_drewN ?_ _ | refine blk_drew ?_ | refine blk_alloc ?_ _)); exact BK621.out) hg (Kd.R_ne HO630.out BK621.out (by decide))); have n1_ := Aside0.mk (Kd.R_after (ok := (fun _ => True)) (zr_ HO627) hg hat); have n2_ := Aside0.mk (hb); have n3_ := Aside0.mk (ho); clear BK621; clear HO627; clear HB; clear HO630; have BK621 := n0_; have HO627 := n1_; have HB := n2_; have HO633 := n3_; clear n0_ n1_ n2_ n3_; clear ho hb hg hat))
   go_ret
   exact ⟨_, by first | rfl | (simp [errW_none, errW_some] <;> rfl) | (simp [*, errW_none, errW_some] <;> rfl), by (with_reducible repeat (first | apply Kd.R_alloc | apply Kd.R_drewN | apply Kd.R_drew)); exact Kd.R_mono HO633.out (fun _ hk => trivial), by repeat (first | (with_reducible first | exact HB.out | apply below_alloc | apply pw_below_drewN | apply below_drew1 | refine below_set ?_ GE621.out) | exact HB.out)⟩
  ·
   rw [if_neg c5] at H
   exact absurd H (by simp)
 ·
  rw [if_neg c4] at H
  exact absurd H (by simp)
end Go.Proofs.Ytioooiflpabngaa.PAll
end
section
namespace Go.Proofs.Ytioooiflpabngaa.PAll
open Go.RowKit Go.Proofs.YtioooiflpabngaaW.PrintWords Go.Proofs.YtioooiflpabngaaW.PrintLast Go.Proofs.YtioooiflpabngaaW.PrintMore
attribute [local go_sem] max2_int min2_int max_two min_two max_three min_three max_four min_four   -- for this text's walks alone
set_option linter.unusedVariables false
set_option linter.unusedSimpArgs false
def folkmootref02_Bytes.f (k : Nat) (l0 : List Int) : Option (List Int) := (folkmootref02_Uint.f k (IntKind.u64.wrap ((l0.length : Int)))).bind fun t634 => (if t634.length + l0.length < 140737488355328 then (some (t634 ++ l0)) else (none))
set_option maxHeartbeats 8000000 in
set_option maxRecDepth 100000 in
theorem folkmootref02_Bytes.calls (k : Nat) (A0 : Option Addr) (c0 : Nat) (l0 : List Int) (r : List Int) (w : World) (hr0 : Kd.C (Kd.int .u8) w A0 l0.length l0) (hc0 : l0.length ≤ c0) (h : folkmootref02_Bytes.f k l0 = some r) :
  Calls Try.prog 123 #[.slice A0 l0.length c0] w fun e w' => ∃ v0_ : Value, e = .returned (v0_) ∧ Kd.R (Kd.int .u8) 5 w' w.heap.size (fun _ => True) v0_ r ∧ Below w.heap.size w w' := by
 have HR0 := Aside0.mk hr0
 have HC0 := Aside0.mk hc0
 clear hr0 hc0
 have HB := Aside0.mk (Below.refl w.heap.size w)
 have H : ((folkmootref02_Uint.f k (IntKind.u64.wrap ((l0.length : Int)))).bind fun t634 => (if t634.length + l0.length < 140737488355328 then (some (t634 ++ l0)) else (none))) = some r := h
 clear h
 replace H := Option.bind_eq_some_iff.mp H
 obtain ⟨t634, A20, H⟩ := H
 replace H : (if t634.length + l0.length < 140737488355328 then (some (t634 ++ l0)) else (none)) = some r := H
 have A2 := Aside0.mk A20
 clear A20
 by_cases c3 : t634.length + l0.length < 140737488355328
 ·
  rw [if_pos c3] at H
  have LMc3 := Aside0.mk c3
  clear c3
  obtain ⟨y637, hy637⟩ : ∃ y_ : List Int, y_ = (t634 ++ l0) := ⟨_, rfl⟩
  replace H : (some y637) = some r := by first | (rw [hy637]; with_reducible exact H) | (have H2_ := (Option.bind_some _ _).symm.trans H; rw [hy637]; with_reducible exact H2_) | (have H2_ := (Option.bind_some _ _).symm.trans H; with_reducible exact H2_) | with_reducible exact H | (rw [hy637]; exact H) | exact H
  have Ny637 := Aside0.mk hy637
  clear hy637
  obtain rfl := Option.some.inj H
  go_enter Try.func123, Try.ntmps123
  go_wp2_with (first | ((with_reducible refine gate_callee (f := 107) rfl ?_); refine goesL_ (some 7) rfl rfl Try.func107 (by kernel_rfl) rfl #[.int .u64 (IntKind.u64.wrap ((l0.length : Int)))] rfl za_ ?_; (with_reducible refine (folkmootref02_Uint.calls k (IntKind.u64.wrap ((l0.length : Int))) t634 _ A2.out).mono ?_); rintro e w4 ⟨v635, rfl, ho0, hb⟩; refine ⟨_, rfl, ?_⟩; have n0_ := Aside0.mk (Kd.R_lower ho0 (below_size zb_)); have n1_ := Aside0.mk (below_step zb_ hb); clear HB; have HO636 := n0_; have HB := n1_; clear n0_ n1_; (try clear hb); (try clear hb2); (try clear hk); (try clear hi); (try clear ho0)) | ((with_reducible refine gate_builtin (b := .append) (xs := #[.tmp 8, .tmp 9]) rfl ?_); at_builtin; refine Kd.R_append_rows (Kd.int .u8) (w0 := w) w.heap.size rfl (.tmp 8) (.tmp 9) 30 5 (.int .u8 0) 1 rfl Try.underlying30 info5 rfl (by decide) (by omega) v635 t634 l0 _ _ _ (fun _ => True) (fun _ => False) rfl rfl ?aO ?aR (fun _ _ h => h) (fun _ h => h.elim) ?aF ?aB ?aS ?aL ?_; (case aR => exact zc_ HR0 HB); (case aB => exact zb_); (case aF => exact (fun _ _ => trivial)); (case aO => exact (zr_ HO636)); (case aS => exact (below_size zb_)); (case aL => have := LMc3.out; omega); intro v638 w5 ho hb hg hat; rw [← Ny637.out] at ho; have n0_ := Aside0.mk (hb); have n1_ := Aside0.mk (ho); clear HB; clear HO636; have HB := n0_; have HO639 := n1_; clear n0_ n1_; clear ho hb hg hat))
  go_ret
  exact ⟨_, by first | rfl | (simp [errW_none, errW_some] <;> rfl) | (simp [*, errW_none, errW_some] <;> rfl), by (with_reducible repeat (first | apply Kd.R_alloc | apply Kd.R_drewN | apply Kd.R_drew)); exact HO639.out, by repeat (first | (with_reducible first | exact HB.out | apply below_alloc | apply pw_below_drewN | apply below_drew1) | exact HB.out)⟩
 ·
  rw [if_neg c3] at H
  exact absurd H (by simp)
end Go.Proofs.Ytioooiflpabngaa.PAll
end
section
namespace Go.Proofs.Ytioooiflpabngaa.PAll
open Go.RowKit Go.Proofs.YtioooiflpabngaaW.PrintWords Go.Proofs.YtioooiflpabngaaW.PrintLast Go.Proofs.YtioooiflpabngaaW.PrintMore
attribute [local go_sem] max2_int min2_int max_two min_two max_three min_three max_four min_four   -- for this text's walks alone
set_option linter.unusedVariables false
set_option linter.unusedSimpArgs false
def folkmootref15_one.f (k : Nat) (a0_0 : Int) (a0_1 : Int) (a0_2 : Int) (a0_3 : Int) (l0_4 : List Int) : Option (List Int) := (folkmootref05_Encode.f k a0_0 a0_1 a0_2 a0_3).bind fun t641 => ((folkmootref02_Bytes.f k l0_4).bind fun t644 => (if t641.length + t644.length < 140737488355328 then (some (t641 ++ t644)) else (none)))
set_option maxHeartbeats 8000000 in
set_option maxRecDepth 100000 in
theorem folkmootref15_one.calls (k : Nat) (a0_0 : Int) (a0_1 : Int) (a0_2 : Int) (a0_3 : Int) (A0_4 : Option Addr) (c0_4 : Nat) (l0_4 : List Int) (r : List Int) (w : World) (hr0_4 : Kd.C (Kd.int .u8) w A0_4 l0_4.length l0_4) (hc0_4 : l0_4.length ≤ c0_4) (h : folkmootref15_one.f k a0_0 a0_1 a0_2 a0_3 l0_4 = some r) :
  Calls Try.prog 100 #[.agg #[.int .u64 a0_0, .int .i64 a0_1, .int .u64 a0_2, .int .i64 a0_3, .slice A0_4 l0_4.length c0_4]] w fun e w' => ∃ v0_ : Value, e = .returned (v0_) ∧ Kd.R (Kd.int .u8) 5 w' w.heap.size (fun _ => True) v0_ r ∧ Below w.heap.size w w' := by
 have hu32 := Try.underlying32
 have hu27 := Try.underlying27
 have HR0_4 := Aside0.mk hr0_4
 have HC0_4 := Aside0.mk hc0_4
 clear hr0_4 hc0_4
 have HB := Aside0.mk (Below.refl w.heap.size w)
 have H : ((folkmootref05_Encode.f k a0_0 a0_1 a0_2 a0_3).bind fun t641 => ((folkmootref02_Bytes.f k l0_4).bind fun t644 => (if t641.length + t644.length < 140737488355328 then (some (t641 ++ t644)) else (none)))) = some r := h
 clear h
 replace H := Option.bind_eq_some_iff.mp H
 obtain ⟨t641, A20, H⟩ := H
 replace H : ((folkmootref02_Bytes.f k l0_4).bind fun t644 => (if t641.length + t644.length < 140737488355328 then (some (t641 ++ t644)) else (none))) = some r := H
 have A2 := Aside0.mk A20
 clear A20
 replace H := Option.bind_eq_some_iff.mp H
 obtain ⟨t644, A30, H⟩ := H
 replace H : (if t641.length + t644.length < 140737488355328 then (some (t641 ++ t644)) else (none)) = some r := H
 have A3 := Aside0.mk A30
 clear A30
 by_cases c4 : t641.length + t644.length < 140737488355328
 ·
  rw [if_pos c4] at H
  have LMc4 := Aside0.mk c4
  clear c4
  obtain ⟨y647, hy647⟩ : ∃ y_ : List Int, y_ = (t641 ++ t644) := ⟨_, rfl⟩
  replace H : (some y647) = some r := by first | (rw [hy647]; with_reducible exact H) | (have H2_ := (Option.bind_some _ _).symm.trans H; rw [hy647]; with_reducible exact H2_) | (have H2_ := (Option.bind_some _ _).symm.trans H; with_reducible exact H2_) | with_reducible exact H | (rw [hy647]; exact H) | exact H
  have Ny647 := Aside0.mk hy647
  clear hy647
  obtain rfl := Option.some.inj H
  go_enter Try.func100, Try.ntmps100
  go_wp2_with (first | ((with_reducible refine gate_dst (N := 1) rfl ?_); refine box_event ?hg (N := 1) ?hd (cs := #[.int .u64 a0_0, .int .i64 a0_1, .int .u64 a0_2, .int .i64 a0_3, .slice A0_4 l0_4.length c0_4]) (t := 32) ?hr ?_; (case hd => rfl); (case hg => rfl); (case hr => first | (go_simp; done) | (go_simp; rfl)); intro gb640 hg w5 hbox hb; have n0_ := Aside0.mk (below_step zb_ hb); have n1_ := Aside0.mk (hbox); have n2_ := Aside0.mk ((by rw [hg]; exact (below_size zb_) : w.heap.size ≤ gb640)); have n3_ := Aside0.mk ((by rw [hg]; exact (below_size zb_) : w.heap.size ≤ gb640)); clear HB; have HB := n0_; have BK640 := n1_; have GW640 := n2_; have GE640 := n3_; clear n0_ n1_ n2_ n3_; clear hb hbox hg; have hcz6_0 : w5.cell? ⟨gb640, 0, none⟩ = some (.int .u64 a0_0) := (blk_cell BK640.out 0).trans rfl; have hcz6_1 : w5.cell? ⟨gb640, 1, none⟩ = some (.int .i64 a0_1) := (blk_cell BK640.out 1).trans rfl; have hcz6_2 : w5.cell? ⟨gb640, 2, none⟩ = some (.int .u64 a0_2) := (blk_cell BK640.out 2).trans rfl; have hcz6_3 : w5.cell? ⟨gb640, 3, none⟩ = some (.int .i64 a0_3) := (blk_cell BK640.out 3).trans rfl; have hcz6_4 : w5.cell? ⟨gb640, 4, none⟩ = some (.slice A0_4 l0_4.length c0_4) := (blk_cell BK640.out 4).trans rfl; have hfz6_0 := blk_frozen BK640.out 0; have hfz6_1 := blk_frozen BK640.out 1; have hfz6_2 := blk_frozen BK640.out 2; have hfz6_3 := blk_frozen BK640.out 3; have hfz6_4 := blk_frozen BK640.out 4) | ((with_reducible refine gate_callee (f := 108) rfl ?_); refine goesL_ (some 6) rfl rfl Try.func108 (by kernel_rfl) rfl #[.agg #[.int .u64 a0_0, .int .i64 a0_1, .int .u64 a0_2, .int .i64 a0_3]] rfl za_ ?_; (with_reducible refine (folkmootref05_Encode.calls k a0_0 a0_1 a0_2 a0_3 t641 _ A2.out).mono ?_); rintro e w7 ⟨v642, rfl, ho0, hb⟩; refine ⟨_, rfl, ?_⟩; have n0_ := Aside0.mk (Kd.R_lower ho0 (below_size zb_)); have n1_ := zk_ BK640 hb; have n2_ := Aside0.mk (below_step zb_ hb); clear BK640; clear HB; have HO643 := n0_; have BK640 := n1_; have HB := n2_; clear n0_ n1_ n2_; (try clear hb); (try clear hb2); (try clear hk); (try clear hi); (try clear ho0); have hcz8_0 : w7.cell? ⟨gb640, 0, none⟩ = some (.int .u64 a0_0) := (blk_cell BK640.out 0).trans rfl; have hcz8_1 : w7.cell? ⟨gb640, 1, none⟩ = some (.int .i64 a0_1) := (blk_cell BK640.out 1).trans rfl; have hcz8_2 : w7.cell? ⟨gb640, 2, none⟩ = some (.int .u64 a0_2) := (blk_cell BK640.out 2).trans rfl; have hcz8_3 : w7.cell? ⟨gb640, 3, none⟩ = some (.int .i64 a0_3) := (blk_cell BK640.out 3).trans rfl; have hcz8_4 : w7.cell? ⟨gb640, 4, none⟩ = some (.slice A0_4 l0_4.length c0_4) := (blk_cell BK640.out 4).trans rfl; have hfz8_0 := blk_frozen BK640.out 0; have hfz8_1 := blk_frozen BK640.out 1; have hfz8_2 := blk_frozen BK640.out 2; have hfz8_3 := blk_frozen BK640.out 3; have hfz8_4 := blk_frozen BK640.out 4) | ((with_reducible refine gate_callee (f := 123) rfl ?_); refine goesL_ (some 10) rfl rfl Try.func123 (by kernel_rfl) rfl #[.slice A0_4 l0_4.length c0_4] rfl za_ ?_; (with_reducible refine (folkmootref02_Bytes.calls k _ _ l0_4 t644 _ ?side1 ?side2 A3.out).mono ?_); (case side1 => exact zc_ HR0_4 HB); (case side2 => exact HC0_4.out); rintro e w9 ⟨v645, rfl, ho0, hb⟩; refine ⟨_, rfl, ?_⟩; have n0_ := Aside0.mk (Kd.R_elder' (zr_ HO643) (Kd.R_base ho0) hb); have n1_ := Aside0.mk (Kd.R_lower (Kd.R_new' ho0 (Kd.R_lt (zr_ HO643))) (below_size zb_)); have n2_ := zk_ BK640 hb; have n3_ := Aside0.mk (below_step zb_ hb); clear HO643; clear BK640; clear HB; have HO643 := n0_; have HO646 := n1_; have BK640 := n2_; have HB := n3_; clear n0_ n1_ n2_ n3_; (try clear hb); (try clear hb2); (try clear hk); (try clear hi); (try clear ho0); obtain ⟨Ao11, co11, eo11⟩ := Kd.R_slice HO646.out; subst eo11) | ((with_reducible refine gate_builtin (b := .append) (xs := #[.tmp 7, .tmp 10]) rfl ?_); at_builtin; refine Kd.R_append_rows (Kd.int .u8) (w0 := w) w.heap.size rfl (.tmp 7) (.tmp 10) 30 5 (.int .u8 0) 1 rfl Try.underlying30 info5 rfl (by decide) (by omega) v642 t641 t644 _ _ _ (fun k_ => some k_ ≠ (.slice Ao11 t644.length co11 : Value).ownBlock) (fun _ => False) rfl rfl ?aO ?aR (fun _ _ h => h) (fun _ h => h.elim) ?aF ?aB ?aS ?aL ?_; (case aR => exact zd_ (Kd.R_reads' HO646.out).2.2); (case aB => exact zb_); (case aF => exact (fun k_ hk => Kd.fresh' (Kd.R_lt (zr_ HO646)) k_ hk)); (case aO => exact (by (with_reducible repeat (first | apply Kd.R_alloc | apply Kd.R_drewN | apply Kd.R_drew)); exact Kd.R_mono HO643.out (fun _ hk => hk.2))); (case aS => exact (below_size zb_)); (case aL => have := LMc4.out; omega); intro v648 w10 ho hb hg hat; rw [← Ny647.out] at ho; have n0_ := Aside0.mk (blk_grown (g := gb640) (o := .cells #[.int .u64 a0_0, .int .i64 a0_1, .int .u64 a0_2, .int .i64 a0_3, .slice A0_4 l0_4.length c0_4] 32 (0, 0)) (by (with_reducible repeat (first | refine blk_drewN ?_ _ | refine blk_drew ?_ | refine blk_alloc ?_ _)); exact BK640.out) hg (Kd.R_ne HO643.out BK640.out (by decide))); have n1_ := Aside0.mk (Kd.R_after (ok := (fun _ => True)) (zr_ HO646) hg hat); have n2_ := Aside0.mk (hb); have n3_ := Aside0.mk (ho); clear BK640; clear HO646; clear HB; clear HO643; have BK640 := n0_; have HO646 := n1_; have HB := n2_; have HO649 := n3_; clear n0_ n1_ n2_ n3_; clear ho hb hg hat))
  go_ret
  exact ⟨_, by first | rfl | (simp [errW_none, errW_some] <;> rfl) | (simp [*, errW_none, errW_some] <;> rfl), by (with_reducible repeat (first | apply Kd.R_alloc | apply Kd.R_drewN | apply Kd.R_drew)); exact Kd.R_mono HO649.out (fun _ hk => trivial), by repeat (first | (with_reducible first | exact HB.out | apply below_alloc | apply pw_below_drewN | apply below_drew1 | refine below_set ?_ GE640.out) | exact HB.out)⟩
 ·
  rw [if_neg c4] at H
  exact absurd H (by simp)
end Go.Proofs.Ytioooiflpabngaa.PAll
end
section
namespace Go.Proofs.Ytioooiflpabngaa.PAll
open Go.RowKit Go.Proofs.YtioooiflpabngaaW.PrintWords Go.Proofs.YtioooiflpabngaaW.PrintLast Go.Proofs.YtioooiflpabngaaW.PrintMore
attribute [local go_sem] max2_int min2_int max_two min_two max_three min_three max_four min_four   -- for this text's walks alone
set_option linter.unusedVariables false
set_option linter.unusedSimpArgs false
mutual
def folkmootref15_All.l0 : Nat → List Int → Int → List (S32) → List (S27) → Int → Int → Int → Option (List Int)
 | 0, _, _, _, _, _, _, _ => none
 | k + 1, x3, x4, x670000, x670001, x670002, x670003, x670004 => if x4 < (x670000.length : Int) then (if 0 ≤ x4 then ((folkmootref15_one.f k ((rd_T32 x670000 x4).f0.f0.f0) ((rd_T32 x670000 x4).f0.f0.f1) ((rd_T32 x670000 x4).f0.f1) ((rd_T32 x670000 x4).f0.f2) ((rd_T32 x670000 x4).f1)).bind fun t680 => (if x3.length + t680.length < 140737488355328 then (folkmootref15_All.l0 k (x3 ++ t680) (wrap64 (x4 + 1)) x670000 x670001 x670002 x670003 x670004) else (none))) else (none)) else ((folkmootref02_Uint.f k (IntKind.u64.wrap ((x670001.length : Int)))).bind fun t686 => (if x3.length + t686.length < 140737488355328 then (folkmootref15_All.l1 k (x3 ++ t686) 0 x670000 x670001 x670002 x670003 x670004) else (none)))
def folkmootref15_All.l1 : Nat → List Int → Int → List (S32) → List (S27) → Int → Int → Int → Option (List Int)
 | 0, _, _, _, _, _, _, _ => none
 | k + 1, x3, x5, x670000, x670001, x670002, x670003, x670004 => if x5 < (x670001.length : Int) then (if 0 ≤ x5 then ((folkmootref05_Encode.f k ((rd_T27 x670001 x5).f0.f0) ((rd_T27 x670001 x5).f0.f1) ((rd_T27 x670001 x5).f1) ((rd_T27 x670001 x5).f2)).bind fun t693 => (if x3.length + t693.length < 140737488355328 then (folkmootref15_All.l1 k (x3 ++ t693) (wrap64 (x5 + 1)) x670000 x670001 x670002 x670003 x670004) else (none))) else (none)) else ((folkmootref02_Uint.f k (IntKind.u64.wrap (x670002))).bind fun t699 => (if x3.length + t699.length < 140737488355328 then ((some (x3 ++ t699 : List Int)).bind fun y702 => ((folkmootref04_Encode.f k x670003 x670004).bind fun t705 => (if y702.length + t705.length < 140737488355328 then (some (y702 ++ t705)) else (none)))) else (none)))
end
def folkmootref15_All.f (k : Nat) (l0_0 : List (S32)) (l0_1 : List (S27)) (a0_2 : Int) (a0_3 : Int) (a0_4 : Int) : Option (List Int) := (some (([2] : List Int) : List Int)).bind fun y670 => ((folkmootref02_Uint.f k (IntKind.u64.wrap ((l0_0.length : Int)))).bind fun t673 => (if y670.length + t673.length < 140737488355328 then (folkmootref15_All.l0 k (y670 ++ t673) 0 l0_0 l0_1 a0_2 a0_3 a0_4) else (none)))
set_option maxHeartbeats 8000000 in
set_option maxRecDepth 100000 in
theorem folkmootref15_All.calls (k : Nat) (A0_0 : Option Addr) (c0_0 : Nat) (l0_0 : List (S32)) (A0_1 : Option Addr) (c0_1 : Nat) (l0_1 : List (S27)) (a0_2 : Int) (a0_3 : Int) (a0_4 : Int) (r : List Int) (w : World) (hr0_0 : Kd.C k32 w A0_0 l0_0.length l0_0) (hc0_0 : l0_0.length ≤ c0_0) (hr0_1 : Kd.C k27 w A0_1 l0_1.length l0_1) (hc0_1 : l0_1.length ≤ c0_1) (h : folkmootref15_All.f k l0_0 l0_1 a0_2 a0_3 a0_4 = some r) :
  Calls Try.prog 54 #[.agg #[.slice A0_0 l0_0.length c0_0, .slice A0_1 l0_1.length c0_1, .int .i64 a0_2, .int .u64 a0_3, .int .i64 a0_4]] w fun e w' => ∃ v0_ : Value, e = .returned (v0_) ∧ Kd.R (Kd.int .u8) 5 w' w.heap.size (fun _ => True) v0_ r ∧ Below w.heap.size w w' := by
 have hu53 := Try.underlying53
 have hu32 := Try.underlying32
 have hu27 := Try.underlying27
 have hu25 := Try.underlying25
 have HR0_0 := Aside0.mk hr0_0
 have HC0_0 := Aside0.mk hc0_0
 clear hr0_0 hc0_0
 have HR0_1 := Aside0.mk hr0_1
 have HC0_1 := Aside0.mk hc0_1
 clear hr0_1 hc0_1
 have HB := Aside0.mk (Below.refl w.heap.size w)
 have H : ((some (([2] : List Int) : List Int)).bind fun y670 => ((folkmootref02_Uint.f k (IntKind.u64.wrap ((l0_0.length : Int)))).bind fun t673 => (if y670.length + t673.length < 140737488355328 then (folkmootref15_All.l0 k (y670 ++ t673) 0 l0_0 l0_1 a0_2 a0_3 a0_4) else (none)))) = some r := h
 clear h
 obtain ⟨y670, hy670⟩ : ∃ y_ : List Int, y_ = (([2] : List Int)) := ⟨_, rfl⟩
 replace H : ((folkmootref02_Uint.f k (IntKind.u64.wrap ((l0_0.length : Int)))).bind fun t673 => (if y670.length + t673.length < 140737488355328 then (folkmootref15_All.l0 k (y670 ++ t673) 0 l0_0 l0_1 a0_2 a0_3 a0_4) else (none))) = some r := by first | (rw [hy670]; with_reducible exact H) | (have H2_ := (Option.bind_some _ _).symm.trans H; rw [hy670]; with_reducible exact H2_) | (have H2_ := (Option.bind_some _ _).symm.trans H; with_reducible exact H2_) | with_reducible exact H | (rw [hy670]; exact H) | exact H
 have Ny670 := Aside0.mk hy670
 clear hy670
 replace H := Option.bind_eq_some_iff.mp H
 obtain ⟨t673, A20, H⟩ := H
 replace H : (if y670.length + t673.length < 140737488355328 then (folkmootref15_All.l0 k (y670 ++ t673) 0 l0_0 l0_1 a0_2 a0_3 a0_4) else (none)) = some r := H
 have A2 := Aside0.mk A20
 clear A20
 by_cases c3 : y670.length + t673.length < 140737488355328
 ·
  rw [if_pos c3] at H
  have LMc3 := Aside0.mk c3
  clear c3
  obtain ⟨y676, hy676⟩ : ∃ y_ : List Int, y_ = (y670 ++ t673) := ⟨_, rfl⟩
  replace H : (folkmootref15_All.l0 k y676 0 l0_0 l0_1 a0_2 a0_3 a0_4) = some r := by first | (rw [hy676]; with_reducible exact H) | (have H2_ := (Option.bind_some _ _).symm.trans H; rw [hy676]; with_reducible exact H2_) | (have H2_ := (Option.bind_some _ _).symm.trans H; with_reducible exact H2_) | with_reducible exact H | (rw [hy676]; exact H) | exact H
  have Ny676 := Aside0.mk hy676
  clear hy676
  have H' := Aside0.mk H
  clear H
  go_enter Try.func54, Try.ntmps54
  go_wp2_with (first | ((with_reducible refine gate_dst (N := 1) rfl ?_); refine box_event ?hg (N := 1) ?hd (cs := #[.slice A0_0 l0_0.length c0_0, .slice A0_1 l0_1.length c0_1, .int .i64 a0_2, .int .u64 a0_3, .int .i64 a0_4]) (t := 53) ?hr ?_; (case hd => rfl); (case hg => rfl); (case hr => first | (go_simp; done) | (go_simp; rfl)); intro gb669 hg w4 hbox hb; have n0_ := Aside0.mk (below_step zb_ hb); have n1_ := Aside0.mk (hbox); have n2_ := Aside0.mk ((by rw [hg]; exact (below_size zb_) : w.heap.size ≤ gb669)); have n3_ := Aside0.mk ((by rw [hg]; exact (below_size zb_) : w.heap.size ≤ gb669)); clear HB; have HB := n0_; have BK669 := n1_; have GW669 := n2_; have GE669 := n3_; clear n0_ n1_ n2_ n3_; clear hb hbox hg) | ((with_reducible refine gate_dst (N := 6) rfl ?_); refine Kd.R_lit (Kd.int .u8) _ 5 ?hg (N := 6) ?hd (xs := ([2] : List Int)) (inner := [.int .u8 2]) (ok := fun _ => True) (okp := fun _ => True) ?hr ?hp (fun _ hk => hk) trivial (Below.refl _ _) (Nat.le_refl _) (by simp) ?_; (case hd => rfl); (case hg => rfl); (case hr => first | (go_simp; done) | (go_simp; rfl)); (case hp => exact (Reps.one (show Kd.M (Kd.int .u8) _ _ _ 2 [.int .u8 2] from rfl) (Reps.none _ _))); intro v671 w5 ho6 hb hg_ hnew_; clear hg_ hnew_; (first | rw [← Ny670.out] at ho6 | (simp only [Int.reduceToNat] at ho6; rw [← Ny670.out] at ho6)); have n0_ := Aside0.mk (Kd.R_lower ho6 (below_size zb_)); have n1_ := zk_ BK669 hb; have n2_ := Aside0.mk (below_step zb_ hb); clear BK669; clear HB; have HO672 := n0_; have BK669 := n1_; have HB := n2_; clear n0_ n1_ n2_; clear hb ho6; have hcz7_0 : w5.cell? ⟨gb669, 0, none⟩ = some (.slice A0_0 l0_0.length c0_0) := (blk_cell BK669.out 0).trans rfl; have hcz7_1 : w5.cell? ⟨gb669, 1, none⟩ = some (.slice A0_1 l0_1.length c0_1) := (blk_cell BK669.out 1).trans rfl; have hcz7_2 : w5.cell? ⟨gb669, 2, none⟩ = some (.int .i64 a0_2) := (blk_cell BK669.out 2).trans rfl; have hcz7_3 : w5.cell? ⟨gb669, 3, none⟩ = some (.int .u64 a0_3) := (blk_cell BK669.out 3).trans rfl; have hcz7_4 : w5.cell? ⟨gb669, 4, none⟩ = some (.int .i64 a0_4) := (blk_cell BK669.out 4).trans rfl; have hfz7_0 := blk_frozen BK669.out 0; have hfz7_1 := blk_frozen BK669.out 1; have hfz7_2 := blk_frozen BK669.out 2; have hfz7_3 := blk_frozen BK669.out 3; have hfz7_4 := blk_frozen BK669.out 4) | ((with_reducible refine gate_callee (f := 107) rfl ?_); refine goesL_ (some 12) rfl rfl Try.func107 (by kernel_rfl) rfl #[.int .u64 (IntKind.u64.wrap ((l0_0.length : Int)))] rfl za_ ?_; (with_reducible refine (folkmootref02_Uint.calls k (IntKind.u64.wrap ((l0_0.length : Int))) t673 _ A2.out).mono ?_); rintro e w8 ⟨v674, rfl, ho0, hb⟩; refine ⟨_, rfl, ?_⟩; have n0_ := Aside0.mk (Kd.R_elder' (zr_ HO672) (Kd.R_base ho0) hb); have n1_ := Aside0.mk (Kd.R_lower (Kd.R_new' ho0 (Kd.R_lt (zr_ HO672))) (below_size zb_)); have n2_ := zk_ BK669 hb; have n3_ := Aside0.mk (below_step zb_ hb); clear HO672; clear BK669; clear HB; have HO672 := n0_; have HO675 := n1_; have BK669 := n2_; have HB := n3_; clear n0_ n1_ n2_ n3_; (try clear hb); (try clear hb2); (try clear hk); (try clear hi); (try clear ho0); obtain ⟨Ao10, co10, eo10⟩ := Kd.R_slice HO675.out; subst eo10) | ((with_reducible refine gate_builtin (b := .append) (xs := #[.tmp 7, .tmp 12]) rfl ?_); at_builtin; refine Kd.R_append_rows (Kd.int .u8) (w0 := w) w.heap.size rfl (.tmp 7) (.tmp 12) 30 5 (.int .u8 0) 1 rfl Try.underlying30 info5 rfl (by decide) (by omega) v671 y670 t673 _ _ _ (fun k_ => some k_ ≠ (.slice Ao10 t673.length co10 : Value).ownBlock) (fun _ => False) rfl rfl ?aO ?aR (fun _ _ h => h) (fun _ h => h.elim) ?aF ?aB ?aS ?aL ?_; (case aR => exact zd_ (Kd.R_reads' HO675.out).2.2); (case aB => exact zb_); (case aF => exact (fun k_ hk => Kd.fresh' (Kd.R_lt (zr_ HO675)) k_ hk)); (case aO => exact (by (with_reducible repeat (first | apply Kd.R_alloc | apply Kd.R_drewN | apply Kd.R_drew)); exact Kd.R_mono HO672.out (fun _ hk => hk.2))); (case aS => exact (below_size zb_)); (case aL => have := LMc3.out; omega); intro v677 w9 ho hb hg hat; rw [← Ny676.out] at ho; have n0_ := Aside0.mk (blk_grown (g := gb669) (o := .cells #[.slice A0_0 l0_0.length c0_0, .slice A0_1 l0_1.length c0_1, .int .i64 a0_2, .int .u64 a0_3, .int .i64 a0_4] 53 (0, 0)) (by (with_reducible repeat (first | refine blk_drewN ?_ _ | refine blk_drew ?_ | refine blk_alloc ?_ _)); exact BK669.out) hg (Kd.R_ne HO672.out BK669.out (by decide))); have n1_ := Aside0.mk (Kd.R_after (ok := (fun _ => True)) (zr_ HO675) hg hat); have n2_ := Aside0.mk (hb); have n3_ := Aside0.mk (ho); clear BK669; clear HO675; clear HB; clear HO672; have BK669 := n0_; have HO675 := n1_; have HB := n2_; have HO678 := n3_; clear n0_ n1_ n2_ n3_; clear ho hb hg hat))
  go_loopg [3, 4] k (fun kq v3 v4 w' => ∃ (x3_1 : List Int) (x4_1 : Int), v4 = .int .i64 x4_1 ∧ Aside0 (folkmootref15_All.l0 kq x3_1 x4_1 l0_0 l0_1 a0_2 a0_3 a0_4 = some r) ∧ Aside0 (kq ≤ k) ∧ Aside0 (Kd.R (Kd.int .u8) 5 w' w.heap.size (fun _ => True) v3 x3_1) ∧ Aside0 (w'.heap[gb669]? = some (.cells #[(.slice A0_0 l0_0.length c0_0), (.slice A0_1 l0_1.length c0_1), .int .i64 a0_2, .int .u64 a0_3, .int .i64 a0_4] 53 (0, 0))) ∧ Aside0 (Below w.heap.size w w'))
  case atStart => exact ⟨(y676), (0), (by first | rfl | (simp; done) | (simp [*]; done)), H', ⟨Nat.le_refl _⟩, ⟨by (with_reducible repeat (first | apply Kd.R_alloc | apply Kd.R_drewN | apply Kd.R_drew)); exact Kd.R_mono HO678.out (fun _ hk => trivial)⟩, ⟨by (with_reducible repeat (first | refine blk_drewN ?_ _ | refine blk_drew ?_ | refine blk_alloc ?_ _)); exact BK669.out⟩, ⟨by repeat (first | (with_reducible first | exact HB.out | apply below_alloc | apply pw_below_drewN | apply below_drew1 | refine below_set ?_ GE669.out) | exact HB.out)⟩⟩
  case round =>
   clear H'
   try clear c1
   try clear p2
   try clear c3
   try clear c5
   try clear c10
   try clear hcz7_0
   try clear hcz7_1
   try clear hcz7_2
   try clear hcz7_3
   try clear hcz7_4
   try clear hfz7_0
   try clear hfz7_1
   try clear hfz7_2
   try clear hfz7_3
   try clear hfz7_4
   obtain ⟨x3_1, x4_1, rfl, HA, HK1, HO_3, BK669, HB⟩ := hrel
   cases gk with
   | zero => exact absurd HA.out (by simp [folkmootref15_All.l0])
   | succ k1 =>
    have H := HA.out
    clear HA
    simp only [folkmootref15_All.l0] at H
    by_cases c11 : x4_1 < (l0_0.length : Int)
    ·
     rw [if_pos c11] at H
     have c11b0 : decide (x4_1 < (l0_0.length : Int)) = true := decide_eq_true c11
     clear c11
     by_cases c12 : 0 ≤ x4_1
     ·
      rw [if_pos c12] at H
      have c12b0 : decide (0 ≤ x4_1) = true := decide_eq_true c12
      clear c12
      replace H := Option.bind_eq_some_iff.mp H
      obtain ⟨t680, A130, H⟩ := H
      replace H : (if x3_1.length + t680.length < 140737488355328 then (folkmootref15_All.l0 k1 (x3_1 ++ t680) (wrap64 (x4_1 + 1)) l0_0 l0_1 a0_2 a0_3 a0_4) else (none)) = some r := H
      have A13 := Aside0.mk A130
      clear A130
      by_cases c14 : x3_1.length + t680.length < 140737488355328
      ·
       rw [if_pos c14] at H
       have LMc14 := Aside0.mk c14
       clear c14
       obtain ⟨y683, hy683⟩ : ∃ y_ : List Int, y_ = (x3_1 ++ t680) := ⟨_, rfl⟩
       replace H : (folkmootref15_All.l0 k1 y683 (wrap64 (x4_1 + 1)) l0_0 l0_1 a0_2 a0_3 a0_4) = some r := by first | (rw [hy683]; with_reducible exact H) | (have H2_ := (Option.bind_some _ _).symm.trans H; rw [hy683]; with_reducible exact H2_) | (have H2_ := (Option.bind_some _ _).symm.trans H; with_reducible exact H2_) | with_reducible exact H | (rw [hy683]; exact H) | exact H
       have Ny683 := Aside0.mk hy683
       clear hy683
       have H' := Aside0.mk H
       clear H
       have hcz15_0 : wr.cell? ⟨gb669, 0, none⟩ = some (.slice A0_0 l0_0.length c0_0) := (blk_cell BK669.out 0).trans rfl
       have hcz15_1 : wr.cell? ⟨gb669, 1, none⟩ = some (.slice A0_1 l0_1.length c0_1) := (blk_cell BK669.out 1).trans rfl
       have hcz15_2 : wr.cell? ⟨gb669, 2, none⟩ = some (.int .i64 a0_2) := (blk_cell BK669.out 2).trans rfl
       have hcz15_3 : wr.cell? ⟨gb669, 3, none⟩ = some (.int .u64 a0_3) := (blk_cell BK669.out 3).trans rfl
       have hcz15_4 : wr.cell? ⟨gb669, 4, none⟩ = some (.int .i64 a0_4) := (blk_cell BK669.out 4).trans rfl
       have hfz15_0 := blk_frozen BK669.out 0
       have hfz15_1 := blk_frozen BK669.out 1
       have hfz15_2 := blk_frozen BK669.out 2
       have hfz15_3 := blk_frozen BK669.out 3
       have hfz15_4 := blk_frozen BK669.out 4
       have p679 : 0 ≤ (x4_1 : Int) := of_decide_eq_true zs_
       have q679 : x4_1 < (l0_0.length : Int) := of_decide_eq_true zs_
       obtain ⟨ad679, A679_4, c679_4, e679, hx679_0, hx679_1, hx679_2, hx679_3, hx679_4, hl679_4, hi679_4⟩ := at_T32 HR0_0.out x4_1 p679 q679
       cases e679
       replace hx679_0 := (HB.out.cell (World.block_lt_of_cell? w _ hx679_0)).trans hx679_0
       replace hx679_1 := (HB.out.cell (World.block_lt_of_cell? w _ hx679_1)).trans hx679_1
       replace hx679_2 := (HB.out.cell (World.block_lt_of_cell? w _ hx679_2)).trans hx679_2
       replace hx679_3 := (HB.out.cell (World.block_lt_of_cell? w _ hx679_3)).trans hx679_3
       replace hx679_4 := (HB.out.cell (World.block_lt_of_cell? w _ hx679_4)).trans hx679_4
       have HR679_4 := Aside0.mk hi679_4
       have HC679_4 := Aside0.mk hl679_4
       clear hi679_4 hl679_4
       replace p679 := eq_true p679
       replace q679 := eq_true q679
       go_wp2_with (first | ((with_reducible refine gate_callee (f := 100) rfl ?_); refine goesL_ (some 27) rfl rfl Try.func100 (by kernel_rfl) rfl #[.agg #[.int .u64 ((rd_T32 l0_0 x4_1).f0.f0.f0), .int .i64 ((rd_T32 l0_0 x4_1).f0.f0.f1), .int .u64 ((rd_T32 l0_0 x4_1).f0.f1), .int .i64 ((rd_T32 l0_0 x4_1).f0.f2), .slice A679_4 ((rd_T32 l0_0 x4_1).f1).length c679_4]] rfl za_ ?_; (with_reducible refine (folkmootref15_one.calls k1 ((rd_T32 l0_0 x4_1).f0.f0.f0) ((rd_T32 l0_0 x4_1).f0.f0.f1) ((rd_T32 l0_0 x4_1).f0.f1) ((rd_T32 l0_0 x4_1).f0.f2) _ _ ((rd_T32 l0_0 x4_1).f1) t680 _ ?side1 ?side2 A13.out).mono ?_); (case side1 => exact zc_ HR679_4 HB); (case side2 => exact HC679_4.out); rintro e w16 ⟨v681, rfl, ho0, hb⟩; refine ⟨_, rfl, ?_⟩; have n0_ := Aside0.mk (Kd.R_elder' (zr_ HO_3) (Kd.R_base ho0) hb); have n1_ := Aside0.mk (Kd.R_lower (Kd.R_new' ho0 (Kd.R_lt (zr_ HO_3))) (below_size zb_)); have n2_ := zk_ BK669 hb; have n3_ := Aside0.mk (below_step zb_ hb); clear HO_3; clear BK669; clear HB; have HO_3 := n0_; have HO682 := n1_; have BK669 := n2_; have HB := n3_; clear n0_ n1_ n2_ n3_; (try clear hb); (try clear hb2); (try clear hk); (try clear hi); (try clear ho0); obtain ⟨Ao18, co18, eo18⟩ := Kd.R_slice HO682.out; subst eo18) | ((with_reducible refine gate_builtin (b := .append) (xs := #[.tmp 21, .tmp 27]) rfl ?_); at_builtin; refine Kd.R_append_rows (Kd.int .u8) (w0 := w) w.heap.size rfl (.tmp 21) (.tmp 27) 30 5 (.int .u8 0) 1 rfl Try.underlying30 info5 rfl (by decide) (by omega) u3 x3_1 t680 _ _ _ (fun k_ => some k_ ≠ (.slice Ao18 t680.length co18 : Value).ownBlock) (fun _ => False) rfl rfl ?aO ?aR (fun _ _ h => h) (fun _ h => h.elim) ?aF ?aB ?aS ?aL ?_; (case aR => exact zd_ (Kd.R_reads' HO682.out).2.2); (case aB => exact zb_); (case aF => exact (fun k_ hk => Kd.fresh' (Kd.R_lt (zr_ HO682)) k_ hk)); (case aO => exact (by (with_reducible repeat (first | apply Kd.R_alloc | apply Kd.R_drewN | apply Kd.R_drew)); exact Kd.R_mono HO_3.out (fun _ hk => hk.2))); (case aS => exact (below_size zb_)); (case aL => have := LMc14.out; omega); intro v684 w17 ho hb hg hat; rw [← Ny683.out] at ho; have n0_ := Aside0.mk (blk_grown (g := gb669) (o := .cells #[.slice (some ad679) l0_0.length c0_0, .slice A0_1 l0_1.length c0_1, .int .i64 a0_2, .int .u64 a0_3, .int .i64 a0_4] 53 (0, 0)) (by (with_reducible repeat (first | refine blk_drewN ?_ _ | refine blk_drew ?_ | refine blk_alloc ?_ _)); exact BK669.out) hg (Kd.R_ne HO_3.out BK669.out (by decide))); have n1_ := Aside0.mk (Kd.R_after (ok := (fun _ => True)) (zr_ HO682) hg hat); have n2_ := Aside0.mk (hb); have n3_ := Aside0.mk (ho); clear BK669; clear HO682; clear HB; clear HO_3; have BK669 := n0_; have HO682 := n1_; have HB := n2_; have HO685 := n3_; clear n0_ n1_ n2_ n3_; clear ho hb hg hat))
       go_roundg k1
       case measure => have := HK1.out; omega
       case rel => exact ⟨(y683), (wrap64 (x4_1 + 1)), (by first | rfl | (simp; done) | (simp [*]; done)), H', ⟨by have := HK1.out; omega⟩, ⟨by (with_reducible repeat (first | apply Kd.R_alloc | apply Kd.R_drewN | apply Kd.R_drew)); exact Kd.R_mono HO685.out (fun _ hk => trivial)⟩, ⟨by (with_reducible repeat (first | refine blk_drewN ?_ _ | refine blk_drew ?_ | refine blk_alloc ?_ _)); exact BK669.out⟩, ⟨by repeat (first | (with_reducible first | exact HB.out | apply below_alloc | apply pw_below_drewN | apply below_drew1 | refine below_set ?_ GE669.out) | exact HB.out)⟩⟩
      ·
       rw [if_neg c14] at H
       exact absurd H (by simp)
     ·
      rw [if_neg c12] at H
      exact absurd H (by simp)
    ·
     rw [if_neg c11] at H
     have c11b0 : decide (x4_1 < (l0_0.length : Int)) = false := decide_eq_false c11
     clear c11
     replace H := Option.bind_eq_some_iff.mp H
     obtain ⟨t686, A190, H⟩ := H
     replace H : (if x3_1.length + t686.length < 140737488355328 then (folkmootref15_All.l1 k1 (x3_1 ++ t686) 0 l0_0 l0_1 a0_2 a0_3 a0_4) else (none)) = some r := H
     have A19 := Aside0.mk A190
     clear A190
     by_cases c20 : x3_1.length + t686.length < 140737488355328
     ·
      rw [if_pos c20] at H
      have LMc20 := Aside0.mk c20
      clear c20
      obtain ⟨y689, hy689⟩ : ∃ y_ : List Int, y_ = (x3_1 ++ t686) := ⟨_, rfl⟩
      replace H : (folkmootref15_All.l1 k1 y689 0 l0_0 l0_1 a0_2 a0_3 a0_4) = some r := by first | (rw [hy689]; with_reducible exact H) | (have H2_ := (Option.bind_some _ _).symm.trans H; rw [hy689]; with_reducible exact H2_) | (have H2_ := (Option.bind_some _ _).symm.trans H; with_reducible exact H2_) | with_reducible exact H | (rw [hy689]; exact H) | exact H
      have Ny689 := Aside0.mk hy689
      clear hy689
      have H' := Aside0.mk H
      clear H
      have hcz21_0 : wr.cell? ⟨gb669, 0, none⟩ = some (.slice A0_0 l0_0.length c0_0) := (blk_cell BK669.out 0).trans rfl
      have hcz21_1 : wr.cell? ⟨gb669, 1, none⟩ = some (.slice A0_1 l0_1.length c0_1) := (blk_cell BK669.out 1).trans rfl
      have hcz21_2 : wr.cell? ⟨gb669, 2, none⟩ = some (.int .i64 a0_2) := (blk_cell BK669.out 2).trans rfl
      have hcz21_3 : wr.cell? ⟨gb669, 3, none⟩ = some (.int .u64 a0_3) := (blk_cell BK669.out 3).trans rfl
      have hcz21_4 : wr.cell? ⟨gb669, 4, none⟩ = some (.int .i64 a0_4) := (blk_cell BK669.out 4).trans rfl
      have hfz21_0 := blk_frozen BK669.out 0
      have hfz21_1 := blk_frozen BK669.out 1
      have hfz21_2 := blk_frozen BK669.out 2
      have hfz21_3 := blk_frozen BK669.out 3
      have hfz21_4 := blk_frozen BK669.out 4
      go_wp2_with (first | ((with_reducible refine gate_callee (f := 107) rfl ?_); refine goesL_ (some 34) rfl rfl Try.func107 (by kernel_rfl) rfl #[.int .u64 (IntKind.u64.wrap ((l0_1.length : Int)))] rfl za_ ?_; (with_reducible refine (folkmootref02_Uint.calls k1 (IntKind.u64.wrap ((l0_1.length : Int))) t686 _ A19.out).mono ?_); rintro e w22 ⟨v687, rfl, ho0, hb⟩; refine ⟨_, rfl, ?_⟩; have n0_ := Aside0.mk (Kd.R_elder' (zr_ HO_3) (Kd.R_base ho0) hb); have n1_ := Aside0.mk (Kd.R_lower (Kd.R_new' ho0 (Kd.R_lt (zr_ HO_3))) (below_size zb_)); have n2_ := zk_ BK669 hb; have n3_ := Aside0.mk (below_step zb_ hb); clear HO_3; clear BK669; clear HB; have HO_3 := n0_; have HO688 := n1_; have BK669 := n2_; have HB := n3_; clear n0_ n1_ n2_ n3_; (try clear hb); (try clear hb2); (try clear hk); (try clear hi); (try clear ho0); obtain ⟨Ao24, co24, eo24⟩ := Kd.R_slice HO688.out; subst eo24) | ((with_reducible refine gate_builtin (b := .append) (xs := #[.tmp 29, .tmp 34]) rfl ?_); at_builtin; refine Kd.R_append_rows (Kd.int .u8) (w0 := w) w.heap.size rfl (.tmp 29) (.tmp 34) 30 5 (.int .u8 0) 1 rfl Try.underlying30 info5 rfl (by decide) (by omega) u3 x3_1 t686 _ _ _ (fun k_ => some k_ ≠ (.slice Ao24 t686.length co24 : Value).ownBlock) (fun _ => False) rfl rfl ?aO ?aR (fun _ _ h => h) (fun _ h => h.elim) ?aF ?aB ?aS ?aL ?_; (case aR => exact zd_ (Kd.R_reads' HO688.out).2.2); (case aB => exact zb_); (case aF => exact (fun k_ hk => Kd.fresh' (Kd.R_lt (zr_ HO688)) k_ hk)); (case aO => exact (by (with_reducible repeat (first | apply Kd.R_alloc | apply Kd.R_drewN | apply Kd.R_drew)); exact Kd.R_mono HO_3.out (fun _ hk => hk.2))); (case aS => exact (below_size zb_)); (case aL => have := LMc20.out; omega); intro v690 w23 ho hb hg hat; rw [← Ny689.out] at ho; have n0_ := Aside0.mk (blk_grown (g := gb669) (o := .cells #[.slice A0_0 l0_0.length c0_0, .slice A0_1 l0_1.length c0_1, .int .i64 a0_2, .int .u64 a0_3, .int .i64 a0_4] 53 (0, 0)) (by (with_reducible repeat (first | refine blk_drewN ?_ _ | refine blk_drew ?_ | refine blk_alloc ?_ _)); exact BK669.out) hg (Kd.R_ne HO_3.out BK669.out (by decide))); have n1_ := Aside0.mk (Kd.R_after (ok := (fun _ => True)) (zr_ HO688) hg hat); have n2_ := Aside0.mk (hb); have n3_ := Aside0.mk (ho); clear BK669; clear HO688; clear HB; clear HO_3; have BK669 := n0_; have HO688 := n1_; have HB := n2_; have HO691 := n3_; clear n0_ n1_ n2_ n3_; clear ho hb hg hat))
      go_loopg [3, 5] k1 (fun kq v3 v5 w' => ∃ (x3_2 : List Int) (x5_2 : Int), v5 = .int .i64 x5_2 ∧ Aside0 (folkmootref15_All.l1 kq x3_2 x5_2 l0_0 l0_1 a0_2 a0_3 a0_4 = some r) ∧ Aside0 (kq ≤ k1) ∧ Aside0 (Kd.R (Kd.int .u8) 5 w' w.heap.size (fun _ => True) v3 x3_2) ∧ Aside0 (w'.heap[gb669]? = some (.cells #[(.slice A0_0 l0_0.length c0_0), (.slice A0_1 l0_1.length c0_1), .int .i64 a0_2, .int .u64 a0_3, .int .i64 a0_4] 53 (0, 0))) ∧ Aside0 (Below w.heap.size w w'))
      case atStart => exact ⟨(y689), (0), (by first | rfl | (simp; done) | (simp [*]; done)), H', ⟨Nat.le_refl _⟩, ⟨by (with_reducible repeat (first | apply Kd.R_alloc | apply Kd.R_drewN | apply Kd.R_drew)); exact Kd.R_mono HO691.out (fun _ hk => trivial)⟩, ⟨by (with_reducible repeat (first | refine blk_drewN ?_ _ | refine blk_drew ?_ | refine blk_alloc ?_ _)); exact BK669.out⟩, ⟨by repeat (first | (with_reducible first | exact HB.out | apply below_alloc | apply pw_below_drewN | apply below_drew1 | refine below_set ?_ GE669.out) | exact HB.out)⟩⟩
      case round =>
       clear H'
       try clear c1
       try clear c2
       try clear p2
       try clear c3
       try clear c5
       try clear c6
       try clear p6
       try clear q6
       try clear hx6
       try clear c10
       try clear c11
       try clear c11b0
       try clear c12
       try clear c12b0
       try clear c14
       try clear c20
       try clear hcz15_0
       try clear hcz15_1
       try clear hcz15_2
       try clear hcz15_3
       try clear hcz15_4
       try clear hcz21_0
       try clear hcz21_1
       try clear hcz21_2
       try clear hcz21_3
       try clear hcz21_4
       try clear hcz7_0
       try clear hcz7_1
       try clear hcz7_2
       try clear hcz7_3
       try clear hcz7_4
       try clear hfz15_0
       try clear hfz15_1
       try clear hfz15_2
       try clear hfz15_3
       try clear hfz15_4
       try clear hfz21_0
       try clear hfz21_1
       try clear hfz21_2
       try clear hfz21_3
       try clear hfz21_4
       try clear hfz7_0
       try clear hfz7_1
       try clear hfz7_2
       try clear hfz7_3
       try clear hfz7_4
       try clear hx679_0
       try clear hx679_1
       try clear hx679_2
       try clear hx679_3
       try clear hx679_4
       try clear p2
       try clear p679
       try clear q679
       obtain ⟨x3_2, x5_2, rfl, HA, HK2, HO_3, BK669, HB⟩ := hrel
       cases gk with
       | zero => exact absurd HA.out (by simp [folkmootref15_All.l1])
       | succ k2 =>
        have H := HA.out
        clear HA
        simp only [folkmootref15_All.l1] at H
        by_cases c25 : x5_2 < (l0_1.length : Int)
        ·
         rw [if_pos c25] at H
         have c25b0 : decide (x5_2 < (l0_1.length : Int)) = true := decide_eq_true c25
         clear c25
         by_cases c26 : 0 ≤ x5_2
         ·
          rw [if_pos c26] at H
          have c26b0 : decide (0 ≤ x5_2) = true := decide_eq_true c26
          clear c26
          replace H := Option.bind_eq_some_iff.mp H
          obtain ⟨t693, A270, H⟩ := H
          replace H : (if x3_2.length + t693.length < 140737488355328 then (folkmootref15_All.l1 k2 (x3_2 ++ t693) (wrap64 (x5_2 + 1)) l0_0 l0_1 a0_2 a0_3 a0_4) else (none)) = some r := H
          have A27 := Aside0.mk A270
          clear A270
          by_cases c28 : x3_2.length + t693.length < 140737488355328
          ·
           rw [if_pos c28] at H
           have LMc28 := Aside0.mk c28
           clear c28
           obtain ⟨y696, hy696⟩ : ∃ y_ : List Int, y_ = (x3_2 ++ t693) := ⟨_, rfl⟩
           replace H : (folkmootref15_All.l1 k2 y696 (wrap64 (x5_2 + 1)) l0_0 l0_1 a0_2 a0_3 a0_4) = some r := by first | (rw [hy696]; with_reducible exact H) | (have H2_ := (Option.bind_some _ _).symm.trans H; rw [hy696]; with_reducible exact H2_) | (have H2_ := (Option.bind_some _ _).symm.trans H; with_reducible exact H2_) | with_reducible exact H | (rw [hy696]; exact H) | exact H
           have Ny696 := Aside0.mk hy696
           clear hy696
           have H' := Aside0.mk H
           clear H
           have hcz29_0 : wr.cell? ⟨gb669, 0, none⟩ = some (.slice A0_0 l0_0.length c0_0) := (blk_cell BK669.out 0).trans rfl
           have hcz29_1 : wr.cell? ⟨gb669, 1, none⟩ = some (.slice A0_1 l0_1.length c0_1) := (blk_cell BK669.out 1).trans rfl
           have hcz29_2 : wr.cell? ⟨gb669, 2, none⟩ = some (.int .i64 a0_2) := (blk_cell BK669.out 2).trans rfl
           have hcz29_3 : wr.cell? ⟨gb669, 3, none⟩ = some (.int .u64 a0_3) := (blk_cell BK669.out 3).trans rfl
           have hcz29_4 : wr.cell? ⟨gb669, 4, none⟩ = some (.int .i64 a0_4) := (blk_cell BK669.out 4).trans rfl
           have hfz29_0 := blk_frozen BK669.out 0
           have hfz29_1 := blk_frozen BK669.out 1
           have hfz29_2 := blk_frozen BK669.out 2
           have hfz29_3 := blk_frozen BK669.out 3
           have hfz29_4 := blk_frozen BK669.out 4
           have p692 : 0 ≤ (x5_2 : Int) := of_decide_eq_true zs_
           have q692 : x5_2 < (l0_1.length : Int) := of_decide_eq_true zs_
           obtain ⟨ad692, e692, hx692_0, hx692_1, hx692_2, hx692_3⟩ := at_T27 HR0_1.out x5_2 p692 q692
           cases e692
           replace hx692_0 := (HB.out.cell (World.block_lt_of_cell? w _ hx692_0)).trans hx692_0
           replace hx692_1 := (HB.out.cell (World.block_lt_of_cell? w _ hx692_1)).trans hx692_1
           replace hx692_2 := (HB.out.cell (World.block_lt_of_cell? w _ hx692_2)).trans hx692_2
           replace hx692_3 := (HB.out.cell (World.block_lt_of_cell? w _ hx692_3)).trans hx692_3
           replace p692 := eq_true p692
           replace q692 := eq_true q692
           go_wp2_with (first | ((with_reducible refine gate_callee (f := 108) rfl ?_); refine goesL_ (some 49) rfl rfl Try.func108 (by kernel_rfl) rfl #[.agg #[.int .u64 ((rd_T27 l0_1 x5_2).f0.f0), .int .i64 ((rd_T27 l0_1 x5_2).f0.f1), .int .u64 ((rd_T27 l0_1 x5_2).f1), .int .i64 ((rd_T27 l0_1 x5_2).f2)]] rfl za_ ?_; (with_reducible refine (folkmootref05_Encode.calls k2 ((rd_T27 l0_1 x5_2).f0.f0) ((rd_T27 l0_1 x5_2).f0.f1) ((rd_T27 l0_1 x5_2).f1) ((rd_T27 l0_1 x5_2).f2) t693 _ A27.out).mono ?_); rintro e w30 ⟨v694, rfl, ho0, hb⟩; refine ⟨_, rfl, ?_⟩; have n0_ := Aside0.mk (Kd.R_elder' (zr_ HO_3) (Kd.R_base ho0) hb); have n1_ := Aside0.mk (Kd.R_lower (Kd.R_new' ho0 (Kd.R_lt (zr_ HO_3))) (below_size zb_)); have n2_ := zk_ BK669 hb; have n3_ := Aside0.mk (below_step zb_ hb); clear HO_3; clear BK669; clear HB; have HO_3 := n0_; have HO695 := n1_; have BK669 := n2_; have HB := n3_; clear n0_ n1_ n2_ n3_; (try clear hb); (try clear hb2); (try clear hk); (try clear hi); (try clear ho0); obtain ⟨Ao32, co32, eo32⟩ := Kd.R_slice HO695.out; subst eo32) | ((with_reducible refine gate_builtin (b := .append) (xs := #[.tmp 43, .tmp 49]) rfl ?_); at_builtin; refine Kd.R_append_rows (Kd.int .u8) (w0 := w) w.heap.size rfl (.tmp 43) (.tmp 49) 30 5 (.int .u8 0) 1 rfl Try.underlying30 info5 rfl (by decide) (by omega) u3 x3_2 t693 _ _ _ (fun k_ => some k_ ≠ (.slice Ao32 t693.length co32 : Value).ownBlock) (fun _ => False) rfl rfl ?aO ?aR (fun _ _ h => h) (fun _ h => h.elim) ?aF ?aB ?aS ?aL ?_; (case aR => exact zd_ (Kd.R_reads' HO695.out).2.2); (case aB => exact zb_); (case aF => exact (fun k_ hk => Kd.fresh' (Kd.R_lt (zr_ HO695)) k_ hk)); (case aO => exact (by (with_reducible repeat (first | apply Kd.R_alloc | apply Kd.R_drewN | apply Kd.R_drew)); exact Kd.R_mono HO_3.out (fun _ hk => hk.2))); (case aS => exact (below_size zb_)); (case aL => have := LMc28.out; omega); intro v697 w31 ho hb hg hat; rw [← Ny696.out] at ho; have n0_ := Aside0.mk (blk_grown (g := gb669) (o := .cells #[.slice A0_0 l0_0.length c0_0, .slice (some ad692) l0_1.length c0_1, .int .i64 a0_2, .int .u64 a0_3, .int .i64 a0_4] 53 (0, 0)) (by (with_reducible repeat (first | refine blk_drewN ?_ _ | refine blk_drew ?_ | refine blk_alloc ?_ _)); exact BK669.out) hg (Kd.R_ne HO_3.out BK669.out (by decide))); have n1_ := Aside0.mk (Kd.R_after (ok := (fun _ => True)) (zr_ HO695) hg hat); have n2_ := Aside0.mk (hb); have n3_ := Aside0.mk (ho); clear BK669; clear HO695; clear HB; clear HO_3; have BK669 := n0_; have HO695 := n1_; have HB := n2_; have HO698 := n3_; clear n0_ n1_ n2_ n3_; clear ho hb hg hat))
           go_roundg k2
           case measure => have := HK1.out; have := HK2.out; omega
           case rel => exact ⟨(y696), (wrap64 (x5_2 + 1)), (by first | rfl | (simp; done) | (simp [*]; done)), H', ⟨by have := HK1.out; have := HK2.out; omega⟩, ⟨by (with_reducible repeat (first | apply Kd.R_alloc | apply Kd.R_drewN | apply Kd.R_drew)); exact Kd.R_mono HO698.out (fun _ hk => trivial)⟩, ⟨by (with_reducible repeat (first | refine blk_drewN ?_ _ | refine blk_drew ?_ | refine blk_alloc ?_ _)); exact BK669.out⟩, ⟨by repeat (first | (with_reducible first | exact HB.out | apply below_alloc | apply pw_below_drewN | apply below_drew1 | refine below_set ?_ GE669.out) | exact HB.out)⟩⟩
          ·
           rw [if_neg c28] at H
           exact absurd H (by simp)
         ·
          rw [if_neg c26] at H
          exact absurd H (by simp)
        ·
         rw [if_neg c25] at H
         have c25b0 : decide (x5_2 < (l0_1.length : Int)) = false := decide_eq_false c25
         clear c25
         replace H := Option.bind_eq_some_iff.mp H
         obtain ⟨t699, A330, H⟩ := H
         replace H : (if x3_2.length + t699.length < 140737488355328 then ((some (x3_2 ++ t699 : List Int)).bind fun y702 => ((folkmootref04_Encode.f k2 a0_3 a0_4).bind fun t705 => (if y702.length + t705.length < 140737488355328 then (some (y702 ++ t705)) else (none)))) else (none)) = some r := H
         have A33 := Aside0.mk A330
         clear A330
         by_cases c34 : x3_2.length + t699.length < 140737488355328
         ·
          rw [if_pos c34] at H
          have LMc34 := Aside0.mk c34
          clear c34
          obtain ⟨y702, hy702⟩ : ∃ y_ : List Int, y_ = (x3_2 ++ t699) := ⟨_, rfl⟩
          replace H : ((folkmootref04_Encode.f k2 a0_3 a0_4).bind fun t705 => (if y702.length + t705.length < 140737488355328 then (some (y702 ++ t705)) else (none))) = some r := by first | (rw [hy702]; with_reducible exact H) | (have H2_ := (Option.bind_some _ _).symm.trans H; rw [hy702]; with_reducible exact H2_) | (have H2_ := (Option.bind_some _ _).symm.trans H; with_reducible exact H2_) | with_reducible exact H | (rw [hy702]; exact H) | exact H
          have Ny702 := Aside0.mk hy702
          clear hy702
          replace H := Option.bind_eq_some_iff.mp H
          obtain ⟨t705, A350, H⟩ := H
          replace H : (if y702.length + t705.length < 140737488355328 then (some (y702 ++ t705)) else (none)) = some r := H
          have A35 := Aside0.mk A350
          clear A350
          by_cases c36 : y702.length + t705.length < 140737488355328
          ·
           rw [if_pos c36] at H
           have LMc36 := Aside0.mk c36
           clear c36
           obtain ⟨y708, hy708⟩ : ∃ y_ : List Int, y_ = (y702 ++ t705) := ⟨_, rfl⟩
           replace H : (some y708) = some r := by first | (rw [hy708]; with_reducible exact H) | (have H2_ := (Option.bind_some _ _).symm.trans H; rw [hy708]; with_reducible exact H2_) | (have H2_ := (Option.bind_some _ _).symm.trans H; with_reducible exact H2_) | with_reducible exact H | (rw [hy708]; exact H) | exact H
           have Ny708 := Aside0.mk hy708
           clear hy708
           obtain rfl := Option.some.inj H
           have hcz37_0 : wr.cell? ⟨gb669, 0, none⟩ = some (.slice A0_0 l0_0.length c0_0) := (blk_cell BK669.out 0).trans rfl
           have hcz37_1 : wr.cell? ⟨gb669, 1, none⟩ = some (.slice A0_1 l0_1.length c0_1) := (blk_cell BK669.out 1).trans rfl
           have hcz37_2 : wr.cell? ⟨gb669, 2, none⟩ = some (.int .i64 a0_2) := (blk_cell BK669.out 2).trans rfl
           have hcz37_3 : wr.cell? ⟨gb669, 3, none⟩ = some (.int .u64 a0_3) := (blk_cell BK669.out 3).trans rfl
           have hcz37_4 : wr.cell? ⟨gb669, 4, none⟩ = some (.int .i64 a0_4) := (blk_cell BK669.out 4).trans rfl
           have hfz37_0 := blk_frozen BK669.out 0
           have hfz37_1 := blk_frozen BK669.out 1
           have hfz37_2 := blk_frozen BK669.out 2
           have hfz37_3 := blk_frozen BK669.out 3
           have hfz37_4 := blk_frozen BK669.out 4
           go_wp2_with (first | ((with_reducible refine gate_callee (f := 107) rfl ?_); refine goesL_ (some 55) rfl rfl Try.func107 (by kernel_rfl) rfl #[.int .u64 (IntKind.u64.wrap (a0_2))] rfl za_ ?_; (with_reducible refine (folkmootref02_Uint.calls k2 (IntKind.u64.wrap (a0_2)) t699 _ A33.out).mono ?_); rintro e w38 ⟨v700, rfl, ho0, hb⟩; refine ⟨_, rfl, ?_⟩; have n0_ := Aside0.mk (Kd.R_elder' (zr_ HO_3) (Kd.R_base ho0) hb); have n1_ := Aside0.mk (Kd.R_lower (Kd.R_new' ho0 (Kd.R_lt (zr_ HO_3))) (below_size zb_)); have n2_ := zk_ BK669 hb; have n3_ := Aside0.mk (below_step zb_ hb); clear HO_3; clear BK669; clear HB; have HO_3 := n0_; have HO701 := n1_; have BK669 := n2_; have HB := n3_; clear n0_ n1_ n2_ n3_; (try clear hb); (try clear hb2); (try clear hk); (try clear hi); (try clear ho0); obtain ⟨Ao40, co40, eo40⟩ := Kd.R_slice HO701.out; subst eo40) | ((with_reducible refine gate_builtin (b := .append) (xs := #[.tmp 51, .tmp 55]) rfl ?_); at_builtin; refine Kd.R_append_rows (Kd.int .u8) (w0 := w) w.heap.size rfl (.tmp 51) (.tmp 55) 30 5 (.int .u8 0) 1 rfl Try.underlying30 info5 rfl (by decide) (by omega) u3 x3_2 t699 _ _ _ (fun k_ => some k_ ≠ (.slice Ao40 t699.length co40 : Value).ownBlock) (fun _ => False) rfl rfl ?aO ?aR (fun _ _ h => h) (fun _ h => h.elim) ?aF ?aB ?aS ?aL ?_; (case aR => exact zd_ (Kd.R_reads' HO701.out).2.2); (case aB => exact zb_); (case aF => exact (fun k_ hk => Kd.fresh' (Kd.R_lt (zr_ HO701)) k_ hk)); (case aO => exact (by (with_reducible repeat (first | apply Kd.R_alloc | apply Kd.R_drewN | apply Kd.R_drew)); exact Kd.R_mono HO_3.out (fun _ hk => hk.2))); (case aS => exact (below_size zb_)); (case aL => have := LMc34.out; omega); intro v703 w39 ho hb hg hat; rw [← Ny702.out] at ho; have n0_ := Aside0.mk (blk_grown (g := gb669) (o := .cells #[.slice A0_0 l0_0.length c0_0, .slice A0_1 l0_1.length c0_1, .int .i64 a0_2, .int .u64 a0_3, .int .i64 a0_4] 53 (0, 0)) (by (with_reducible repeat (first | refine blk_drewN ?_ _ | refine blk_drew ?_ | refine blk_alloc ?_ _)); exact BK669.out) hg (Kd.R_ne HO_3.out BK669.out (by decide))); have n1_ := Aside0.mk (Kd.R_after (ok := (fun _ => True)) (zr_ HO701) hg hat); have n2_ := Aside0.mk (hb); have n3_ := Aside0.mk (ho); clear BK669; clear HO701; clear HB; clear HO_3; have BK669 := n0_; have HO701 := n1_; have HB := n2_; have HO704 := n3_; clear n0_ n1_ n2_ n3_; clear ho hb hg hat; have hcz41_0 : w39.cell? ⟨gb669, 0, none⟩ = some (.slice A0_0 l0_0.length c0_0) := (blk_cell BK669.out 0).trans rfl; have hcz41_1 : w39.cell? ⟨gb669, 1, none⟩ = some (.slice A0_1 l0_1.length c0_1) := (blk_cell BK669.out 1).trans rfl; have hcz41_2 : w39.cell? ⟨gb669, 2, none⟩ = some (.int .i64 a0_2) := (blk_cell BK669.out 2).trans rfl; have hcz41_3 : w39.cell? ⟨gb669, 3, none⟩ = some (.int .u64 a0_3) := (blk_cell BK669.out 3).trans rfl; have hcz41_4 : w39.cell? ⟨gb669, 4, none⟩ = some (.int .i64 a0_4) := (blk_cell BK669.out 4).trans rfl; have hfz41_0 := blk_frozen BK669.out 0; have hfz41_1 := blk_frozen BK669.out 1; have hfz41_2 := blk_frozen BK669.out 2; have hfz41_3 := blk_frozen BK669.out 3; have hfz41_4 := blk_frozen BK669.out 4) | ((with_reducible refine gate_callee (f := 109) rfl ?_); refine goesL_ (some 60) rfl rfl Try.func109 (by kernel_rfl) rfl #[.agg #[.int .u64 a0_3, .int .i64 a0_4]] rfl za_ ?_; (with_reducible refine (folkmootref04_Encode.calls k2 a0_3 a0_4 t705 _ A35.out).mono ?_); rintro e w42 ⟨v706, rfl, ho0, hb⟩; refine ⟨_, rfl, ?_⟩; have n0_ := Aside0.mk (Kd.R_elder' (zr_ HO701) (Kd.R_base ho0) hb); have n1_ := Aside0.mk (Kd.R_elder' (zr_ HO704) (Kd.R_base ho0) hb); have n2_ := Aside0.mk (Kd.R_lower (Kd.R_new' (Kd.R_new' ho0 (Kd.R_lt (zr_ HO701))) (Kd.R_lt (zr_ HO704))) (below_size zb_)); have n3_ := zk_ BK669 hb; have n4_ := Aside0.mk (below_step zb_ hb); clear HO701; clear HO704; clear BK669; clear HB; have HO701 := n0_; have HO704 := n1_; have HO707 := n2_; have BK669 := n3_; have HB := n4_; clear n0_ n1_ n2_ n3_ n4_; (try clear hb); (try clear hb2); (try clear hk); (try clear hi); (try clear ho0); obtain ⟨Ao44, co44, eo44⟩ := Kd.R_slice HO707.out; subst eo44) | ((with_reducible refine gate_builtin (b := .append) (xs := #[.tmp 57, .tmp 60]) rfl ?_); at_builtin; refine Kd.R_append_rows (Kd.int .u8) (w0 := w) w.heap.size rfl (.tmp 57) (.tmp 60) 30 5 (.int .u8 0) 1 rfl Try.underlying30 info5 rfl (by decide) (by omega) v703 y702 t705 _ _ _ (fun k_ => some k_ ≠ (.slice Ao40 t699.length co40 : Value).ownBlock ∧ some k_ ≠ (.slice Ao44 t705.length co44 : Value).ownBlock) (fun _ => False) rfl rfl ?aO ?aR (fun _ _ h => h) (fun _ h => h.elim) ?aF ?aB ?aS ?aL ?_; (case aR => exact zd_ (Kd.R_reads' HO707.out).2.2); (case aB => exact zb_); (case aF => exact (fun k_ hk => ⟨Kd.fresh' (Kd.R_lt (zr_ HO701)) k_ hk, Kd.fresh' (Kd.R_lt (zr_ HO707)) k_ hk⟩)); (case aO => exact (zr_ HO704)); (case aS => exact (below_size zb_)); (case aL => have := LMc36.out; omega); intro v709 w43 ho hb hg hat; rw [← Ny708.out] at ho; have n0_ := Aside0.mk (blk_grown (g := gb669) (o := .cells #[.slice A0_0 l0_0.length c0_0, .slice A0_1 l0_1.length c0_1, .int .i64 a0_2, .int .u64 a0_3, .int .i64 a0_4] 53 (0, 0)) (by (with_reducible repeat (first | refine blk_drewN ?_ _ | refine blk_drew ?_ | refine blk_alloc ?_ _)); exact BK669.out) hg (Kd.R_ne HO704.out BK669.out (by decide))); have n1_ := Aside0.mk (Kd.R_after (ok := (fun k_ => some k_ ≠ (.slice Ao44 t705.length co44 : Value).ownBlock)) (by (with_reducible repeat (first | apply Kd.R_alloc | apply Kd.R_drewN | apply Kd.R_drew)); exact Kd.R_mono HO701.out (fun _ hk => ⟨hk.2, hk.1.2⟩)) hg hat); have n2_ := Aside0.mk (Kd.R_after (ok := (fun k_ => some k_ ≠ (.slice Ao40 t699.length co40 : Value).ownBlock)) (by (with_reducible repeat (first | apply Kd.R_alloc | apply Kd.R_drewN | apply Kd.R_drew)); exact Kd.R_mono HO707.out (fun _ hk => ⟨hk.1.2, hk.2⟩)) hg hat); have n3_ := Aside0.mk (hb); have n4_ := Aside0.mk (ho); clear BK669; clear HO701; clear HO707; clear HB; clear HO704; have BK669 := n0_; have HO701 := n1_; have HO707 := n2_; have HB := n3_; have HO710 := n4_; clear n0_ n1_ n2_ n3_ n4_; clear ho hb hg hat))
           go_ret
           exact ⟨_, by first | rfl | (simp [errW_none, errW_some] <;> rfl) | (simp [*, errW_none, errW_some] <;> rfl), by (with_reducible repeat (first | apply Kd.R_alloc | apply Kd.R_drewN | apply Kd.R_drew)); exact Kd.R_mono HO710.out (fun _ hk => trivial), by repeat (first | (with_reducible first | exact HB.out | apply below_alloc | apply pw_below_drewN | apply below_drew1 | refine below_set ?_ GE669.out) | exact HB.out)⟩
          ·
           rw [if_neg c36] at H
           exact absurd H (by simp)
         ·
          rw [if_neg c34] at H
          exact absurd H (by simp)
     ·
      rw [if_neg c20] at H
      exact absurd H (by simp)
 ·
  rw [if_neg c3] at H
  exact absurd H (by simp)
end Go.Proofs.Ytioooiflpabngaa.PAll
end
section
namespace Go.Proofs.Ytioooiflpabngaa.PAll
open Go.RowKit Go.Proofs.YtioooiflpabngaaW.PrintWords Go.Proofs.YtioooiflpabngaaW.PrintLast Go.Proofs.YtioooiflpabngaaW.PrintMore
set_option linter.unusedVariables false
set_option linter.unusedSimpArgs false
structure SumR (w wr : World) (A : Option Addr) (c : Nat) (P : List Int) (v u : Value) (con : List S32) (ord : List S27) (nx hn hp : Int) (l : List Int) (bad : Bool) : Prop where
  rd : RdR wr (w.heap.size + 3) w.heap.size A c P l bad
  b0 : wr.heap[w.heap.size]? = some (.cells zE 32 (0, 0))
  b1 : wr.heap[w.heap.size + 1]? = some (.cells zS 53 (0, 0))
  b2 : wr.heap[w.heap.size + 2]? = some (.cells zE 32 (0, 0))
  b3 : wr.heap[w.heap.size + 4]? = some (.cells #[v, u, .int .i64 nx, .int .u64 hn, .int .i64 hp] 53 (0, 0))
  rv : Kd.N k32 32 wr w.heap.size (fun k => (k < w.heap.size ∨ w.heap.size + 4 < k) ∧ some k ≠ u.ownBlock) v con
  ru : Kd.R k27 27 wr w.heap.size (fun k => w.heap.size + 4 < k) u ord
  bel : Below w.heap.size w wr
section
variable {w wr w2 W w1 : World} {A : Option Addr} {c : Nat} {P : List Int} {v u : Value} {con : List S32} {ord : List S27} {nx hn hp : Int} {l l' : List Int} {bad bad' : Bool}
theorem SumR.lt (h : SumR w wr A c P v u con ord nx hn hp l bad) : w.heap.size + 4 < wr.heap.size := blk_lt h.b3
theorem SumR.vown (h : SumR w wr A c P v u con ord nx hn hp l bad) : ∀ k, v.ownBlock = some k → w.heap.size + 4 < k := fun k hk => by
  have h1 := h.rv.1 k hk
  have h2 := Kd.N_base h.rv k hk
  omega
theorem SumR.grown (h : SumR w wr A c P v u con ord nx hn hp l bad) (hR : RdR w2 (w.heap.size + 3) w.heap.size A c P l' bad') (hg : wr.grownBy w2 (some (w.heap.size + 3))) : SumR w w2 A c P v u con ord nx hn hp l' bad' := by
  have h3 := h.lt
  refine ⟨hR, blk_grown h.b0 hg (by simp), blk_grown h.b1 hg (by simp), blk_grown h.b2 hg (by simp), blk_grown h.b3 hg (by simp), Kd.N_grown h.rv hg (fun k hk e => by simp at e; omega), Kd.R_grown h.ru hg (fun k hk e => by simp at e; omega), h.bel.trans ⟨hg.os, hg.tape, hg.output, hg.size, fun k hk => hg.block k (by omega) (fun e => by simp at e; omega)⟩⟩
theorem SumR.below (h : SumR w wr A c P v u con ord nx hn hp l bad) (hb : Below wr.heap.size wr w2) : SumR w w2 A c P v u con ord nx hn hp l bad :=
  ⟨h.rd.keep (hb.mono h.rd.lt), blk_below h.b0 hb, blk_below h.b1 hb, blk_below h.b2 hb, blk_below h.b3 hb, Kd.N_below h.rv hb, Kd.R_below h.ru hb, h.bel.trans (hb.mono (by have := h.bel.size; omega))⟩
theorem rdR_far (h : RdR wr (w.heap.size + 3) w.heap.size A c P l bad) {p : Addr} (hp : w.heap.size + 3 < p.block) (x : Value) : RdR (wr.setCell p x) (w.heap.size + 3) w.heap.size A c P l bad :=
  h.keep ((Below.refl _ _).setCell hp x)
theorem SumR.pushV (h2 : SumR w W A c P v u con ord nx hn hp l bad) {v1 : Value} {con1 : List S32} (hg : W.grownBy w1 v.ownBlock) (hR : Kd.N k32 32 w1 w.heap.size (fun k => (k < w.heap.size ∨ w.heap.size + 4 < k) ∧ some k ≠ u.ownBlock) v1 con1) (hB : Below w.heap.size w w1) :
    SumR w (w1.setCell ⟨w.heap.size + 4, 0, none⟩ v1) A c P v1 u con1 ord nx hn hp l bad ∧ w1.heap[w.heap.size + 4]? = some (.cells #[v, u, .int .i64 nx, .int .u64 hn, .int .i64 hp] 53 (0, 0)) := by
  have hlt := h2.lt
  have ho := h2.vown
  have blk : ∀ k, k ≤ w.heap.size + 4 → w1.heap[k]? = W.heap[k]? := fun k hk => hg.block k (by omega) (fun e => by have := ho k e.symm; omega)
  have b3 := (blk _ (Nat.le_refl _)).trans h2.b3
  have hne : ∀ k, u.ownBlock = some k → some k ≠ v.ownBlock := fun k hk e => by
    obtain ⟨c1, t1⟩ := Kd.N_typed h2.rv k e.symm
    obtain ⟨Au, cu, rfl⟩ := Kd.R_slice h2.ru
    have hp : 0 < ord.length := by
      cases ord with
      | nil =>
        exfalso
        have h9 := h2.ru.2
        cases Au with
        | none => simp [Value.ownBlock] at hk
        | some a =>
          obtain ⟨inner, ho, hr⟩ := h9
          have := own_typed ho k hk
          obtain ⟨c2, t2⟩ := this
          rw [t1] at t2
          injection t2 with t2
          injection t2 with t2 t3
          revert t3
          decide
      | cons x ord => simp
    obtain ⟨g, cap, hv, _, _, c2, t2⟩ := Kd.R_form h2.ru hp
    rw [hv] at hk
    simp [Value.ownBlock] at hk
    subst hk
    rw [t1] at t2
    injection t2 with t2
    injection t2 with t2 t3
    revert t3
    decide
  have ru : Kd.R k27 27 w1 w.heap.size (fun k => w.heap.size + 4 < k) u ord := Kd.R_mono (Kd.R_grown (Kd.R_tight2 rfl h2.ru) hg (fun k hk e => hne k hk.1.symm e)) (fun k hk => hk.2)
  refine ⟨⟨?_, ?_, ?_, ?_, ?_, Kd.N_far hR (fun k hk => by simp only; omega) _, Kd.R_far ru (fun k hk => Nat.ne_of_gt hk) _, hB.setCell (by simp) _⟩, b3⟩
  · exact rdR_far (h2.rd.keep ⟨hg.os, hg.tape, hg.output, hg.size, fun k hk => blk k (by omega)⟩) (by simp) _
  · exact blk_far ((blk _ (by omega)).trans h2.b0) (by simp) _
  · exact blk_far ((blk _ (by omega)).trans h2.b1) (by simp) _
  · exact blk_far ((blk _ (by omega)).trans h2.b2) (by simp) _
  · exact blk_put b3 0 _ rfl
theorem SumR.pushU (h2 : SumR w W A c P v u con ord nx hn hp l bad) {u1 : Value} {ord1 : List S27} (hg : W.grownBy w1 u.ownBlock) (hR : Kd.R k27 27 w1 w.heap.size (fun k => w.heap.size + 4 < k) u1 ord1) (hB : Below w.heap.size w w1) (hat : u1.ownBlock = u.ownBlock ∨ ∃ b, u1.ownBlock = some b ∧ W.heap.size ≤ b) :
    SumR w (w1.setCell ⟨w.heap.size + 4, 1, none⟩ u1) A c P v u1 con ord1 nx hn hp l bad ∧ w1.heap[w.heap.size + 4]? = some (.cells #[v, u, .int .i64 nx, .int .u64 hn, .int .i64 hp] 53 (0, 0)) := by
  have hlt := h2.lt
  have ho : ∀ k, u.ownBlock = some k → w.heap.size + 4 < k := h2.ru.1
  have blk : ∀ k, k ≤ w.heap.size + 4 → w1.heap[k]? = W.heap[k]? := fun k hk => hg.block k (by omega) (fun e => by have := ho k e.symm; omega)
  have b3 := (blk _ (Nat.le_refl _)).trans h2.b3
  have rv := Kd.N_after h2.rv hg hat
  refine ⟨⟨?_, ?_, ?_, ?_, ?_, Kd.N_far rv (fun k hk => by simp only; omega) _, Kd.R_far hR (fun k hk => Nat.ne_of_gt hk) _, hB.setCell (by simp) _⟩, b3⟩
  · exact rdR_far (h2.rd.keep ⟨hg.os, hg.tape, hg.output, hg.size, fun k hk => blk k (by omega)⟩) (by simp) _
  · exact blk_far ((blk _ (by omega)).trans h2.b0) (by simp) _
  · exact blk_far ((blk _ (by omega)).trans h2.b1) (by simp) _
  · exact blk_far ((blk _ (by omega)).trans h2.b2) (by simp) _
  · exact blk_put b3 1 _ rfl
end
end Go.Proofs.Ytioooiflpabngaa.PAll
end
section
namespace Go.Proofs.Ytioooiflpabngaa.PAll
open Go.RowKit Go.Proofs.YtioooiflpabngaaW.PrintWords
set_option linter.unusedVariables false
set_option linter.unusedSimpArgs false
theorem wrap64_nat {n : Nat} (h : n < 9223372036854775808) : wrap64 (n : Int) = (n : Int) := by unfold wrap64; omega
theorem iRd_of {n : Nat} {t : List Int} {N : Int} (ht : Byt t) (hn : (n : Int) ≤ N) (hN : N < 4398046511104) : iRd (uintB n ++ t) false N = ((n : Int), t, false) := by
  have h := uRd_of (n := n) ht (by omega)
  unfold iRd
  rw [h]
  simp only [Bool.false_eq_true, false_or]
  rw [if_neg (by omega), wrap64_nat (by omega)]
theorem bRd_of {m t : List Int} (ht : Byt t) (hm : Byt m) (hl : m.length ≤ 64) : bRd (uintB m.length ++ (m ++ t)) false 64 = (m, t, false) := by
  have h := iRd_of (n := m.length) (N := 64) (hm.append ht) (by omega) (by decide)
  unfold bRd
  rw [h]
  simp only [Bool.false_eq_true, false_or, Int.toNat_natCast, List.length_append]
  rw [if_neg (by omega)]
  simp
theorem fV_true {n p : Int} (h : fV n p = true) : ident_Form.f n p = some true ∧ 0 ≤ p ∧ p < 16 := by
  have e := fV_eq n p
  rw [h] at e
  refine ⟨e, ?_⟩
  unfold ident_Form.f at e
  by_cases h1 : p ≥ 0
  · by_cases h2 : p < 16
    · exact ⟨h1, h2⟩
    · rw [if_pos h1, if_neg h2] at e; cases e
  · rw [if_neg h1] at e; cases e
theorem uintB_small {p : Int} (h : 0 ≤ p) (h2 : p < 16) : uintB p.toNat = [p] := by
  rw [uintB, if_neg (by omega)]
  congr 1
  omega
theorem vRd_of {v : S25} {t : List Int} (ht : Byt t) (h0 : 0 ≤ v.f0 ∧ v.f0 < 18446744073709551616) (hf : ident_Form.f v.f0 v.f1 = some true) : vRd (viewB v ++ t) false = (v, true, t, false) := by
  have hfv : fV v.f0 v.f1 = true := by unfold fV; rw [hf]; rfl
  obtain ⟨-, p0, p1⟩ := fV_true hfv
  have e : viewB v ++ t = uintB v.f0.toNat ++ (uintB v.f1.toNat ++ t) := by rw [uintB_small p0 p1]; unfold viewB; simp
  have h1 := uRd_of (n := v.f0.toNat) (t := uintB v.f1.toNat ++ t) ((uintB_byt _).append ht) (by omega)
  have h2 := iRd_of (n := v.f1.toNat) (t := t) (N := 15) ht (by omega) (by decide)
  have c0 : ((v.f0.toNat : Nat) : Int) = v.f0 := Int.toNat_of_nonneg h0.1
  have c1 : ((v.f1.toNat : Nat) : Int) = v.f1 := Int.toNat_of_nonneg p0
  rw [c0] at h1
  rw [c1] at h2
  rw [e]
  unfold vRd
  rw [h1]
  simp only
  rw [h2]
  simp only [hfv, Bool.false_eq_true, Bool.true_eq_false, or_self, if_false]
theorem lRd_of {x : S27} {t : List Int} (ht : Byt t) (h : FormL x) : lRd (labB x ++ t) false = (x, true, t, false) := by
  have hfl : fL x.f0.f0 x.f0.f1 x.f1 x.f2 = true := by unfold fL; rw [h.label]; rfl
  have e : labB x ++ t = viewB x.f0 ++ (uintB x.f1.toNat ++ (uintB x.f2.toNat ++ t)) := by rw [uintB_small h.p1.1 h.p1.2]; unfold labB; simp
  have b2 : Byt (uintB x.f2.toNat ++ t) := (uintB_byt _).append ht
  have h0 := vRd_of (v := x.f0) (t := uintB x.f1.toNat ++ (uintB x.f2.toNat ++ t)) ((uintB_byt _).append b2) h.n0 h.form
  have h1 := uRd_of (n := x.f1.toNat) (t := uintB x.f2.toNat ++ t) b2 (by have := h.seq; omega)
  have h2 := iRd_of (n := x.f2.toNat) (t := t) (N := 15) ht (by have := h.p1; omega) (by decide)
  have c0 : ((x.f1.toNat : Nat) : Int) = x.f1 := Int.toNat_of_nonneg (by have := h.seq; omega)
  have c1 : ((x.f2.toNat : Nat) : Int) = x.f2 := Int.toNat_of_nonneg h.p1.1
  rw [c0] at h1
  rw [c1] at h2
  have ep : lPre (labB x ++ t) false = (x.f0, true, x.f1, x.f2, t, false) := by
    unfold lPre
    rw [e, h0]
    simp only
    rw [h1]
    simp only
    rw [h2]
  unfold lRd
  rw [ep]
  simp only [hfl, Bool.true_eq_false, Bool.false_eq_true, or_self, if_false]
theorem eRd_of {x : S32} {t : List Int} (ht : Byt t) (h : FormL x.f0) (hm : Byt x.f1) (hl : x.f1.length ≤ 64) : eRd (entB x ++ t) false = (x, true, t, false) := by
  have e : entB x ++ t = labB x.f0 ++ (uintB x.f1.length ++ (x.f1 ++ t)) := by unfold entB; simp
  have h0 := lRd_of (x := x.f0) (t := uintB x.f1.length ++ (x.f1 ++ t)) ((uintB_byt _).append (hm.append ht)) h
  have h1 := bRd_of ht hm hl
  unfold eRd
  rw [e, h0]
  simp only
  rw [h1]
  rfl
end Go.Proofs.Ytioooiflpabngaa.PAll
end
section
namespace Go.Proofs.Ytioooiflpabngaa.PAll
open Go.RowKit Go.Proofs.YtioooiflpabngaaW.PrintWords
set_option linter.unusedVariables false
set_option linter.unusedSimpArgs false
def EOk (x : S32) : Prop := FormL x.f0 ∧ x.f1.length ≤ 64 ∧ Byt x.f1
theorem EOk.byt {x : S32} (h : EOk x) : Byt (entB x) := entB_byt h.1 h.2.2
theorem flatE_byt : ∀ {l : List S32}, (∀ x ∈ l, EOk x) → Byt (l.flatMap entB)
  | [], _ => fun x hx => by simp at hx
  | x :: l, h => by
    rw [List.flatMap_cons]
    exact (h x List.mem_cons_self).byt.append (flatE_byt fun y hy => h y (List.mem_cons_of_mem _ hy))
theorem flatL_byt : ∀ {l : List S27}, (∀ x ∈ l, FormL x) → Byt (l.flatMap labB)
  | [], _ => fun x hx => by simp at hx
  | x :: l, h => by
    rw [List.flatMap_cons]
    exact (labB_byt (h x List.mem_cons_self)).append (flatL_byt fun y hy => h y (List.mem_cons_of_mem _ hy))
theorem eLoop_of : ∀ (con acc : List S32) (t : List Int), (∀ x ∈ con, EOk x) → Byt t → eLoop con.length true acc (con.flatMap entB ++ t) false = (acc ++ con, true, t, false)
  | [], acc, t, _, _ => by simp [eLoop]
  | x :: con, acc, t, h, ht => by
    have hx := h x List.mem_cons_self
    have hc : ∀ y ∈ con, EOk y := fun y hy => h y (List.mem_cons_of_mem _ hy)
    have e := eRd_of (x := x) (t := con.flatMap entB ++ t) ((flatE_byt hc).append ht) hx.1 hx.2.2 hx.2.1
    rw [List.flatMap_cons, List.append_assoc, List.length_cons]
    simp only [eLoop, if_true]
    rw [e]
    simp only
    rw [eLoop_of con (acc ++ [x]) t hc ht]
    simp
theorem lLoop_of : ∀ (ord acc : List S27) (t : List Int), (∀ x ∈ ord, FormL x) → Byt t → lLoop ord.length true acc (ord.flatMap labB ++ t) false = (acc ++ ord, true, t, false)
  | [], acc, t, _, _ => by simp [lLoop]
  | x :: ord, acc, t, h, ht => by
    have hx := h x List.mem_cons_self
    have hc : ∀ y ∈ ord, FormL y := fun y hy => h y (List.mem_cons_of_mem _ hy)
    have e := lRd_of (x := x) (t := ord.flatMap labB ++ t) ((flatL_byt hc).append ht) hx
    rw [List.flatMap_cons, List.append_assoc, List.length_cons]
    simp only [lLoop, if_true]
    rw [e]
    simp only
    rw [lLoop_of ord (acc ++ [x]) t hc ht]
    simp
structure SOk (s : S53) : Prop where
  con : ∀ x ∈ s.f0, EOk x
  ord : ∀ x ∈ s.f1, FormL x
  nx : 0 ≤ s.f2
  hn : 0 ≤ s.f3.f0 ∧ s.f3.f0 < 18446744073709551616
  form : ident_Form.f s.f3.f0 s.f3.f1 = some true
def bodyB (s : S53) : List Int := uintB s.f0.length ++ (s.f0.flatMap entB ++ (uintB s.f1.length ++ (s.f1.flatMap labB ++ restB s)))
theorem restB_byt {s : S53} (h : SOk s) : Byt (restB s) := by
  obtain ⟨-, p0, p1⟩ := fV_true (n := s.f3.f0) (p := s.f3.f1) (by unfold fV; rw [h.form]; rfl)
  exact (uintB_byt _).append (viewB_byt ⟨p0, by omega⟩)
theorem sRd_of {s : S53} {N : Int} (h : SOk s) (hN : N < 4398046511104) (h1 : (s.f0.length : Int) ≤ N) (h2 : (s.f1.length : Int) ≤ N) (h3 : s.f2 ≤ N) : sRd (bodyB s) N = (s, true) := by
  have b3 := restB_byt h
  have b2 : Byt (s.f1.flatMap labB ++ restB s) := (flatL_byt h.ord).append b3
  have b1 : Byt (s.f0.flatMap entB ++ (uintB s.f1.length ++ (s.f1.flatMap labB ++ restB s))) := (flatE_byt h.con).append ((uintB_byt _).append b2)
  have e1 := iRd_of (n := s.f0.length) b1 h1 hN
  have e2 := eLoop_of s.f0 [] (uintB s.f1.length ++ (s.f1.flatMap labB ++ restB s)) h.con ((uintB_byt _).append b2)
  have e3 := iRd_of (n := s.f1.length) b2 h2 hN
  have e4 := lLoop_of s.f1 [] (restB s) h.ord b3
  have c0 : ((s.f2.toNat : Nat) : Int) = s.f2 := Int.toNat_of_nonneg h.nx
  obtain ⟨-, p0, p1⟩ := fV_true (n := s.f3.f0) (p := s.f3.f1) (by unfold fV; rw [h.form]; rfl)
  have bv : Byt (viewB s.f3) := viewB_byt ⟨p0, by omega⟩
  have e5 := iRd_of (n := s.f2.toNat) (t := viewB s.f3) (N := N) bv (by omega) hN
  have e6 := vRd_of (v := s.f3) (t := []) (fun x hx => by cases hx) h.hn h.form
  rw [List.append_nil] at e6
  rw [c0] at e5
  unfold sRd bodyB
  simp only [e1, Int.toNat_natCast, e2, e3, e4, List.nil_append]
  rw [show restB s = uintB s.f2.toNat ++ viewB s.f3 from rfl, e5]
  simp only [e6]
  rfl
end Go.Proofs.Ytioooiflpabngaa.PAll
end
section
namespace Go.Proofs.Ytioooiflpabngaa.PAll
open Go.RowKit Go.Proofs.YtioooiflpabngaaW.PrintWords
set_option linter.unusedVariables false
set_option linter.unusedSimpArgs false
theorem refView_ev {v : S25} (h : 0 ≤ v.f0 ∧ v.f0 < 18446744073709551616) (hp : 0 ≤ v.f1 ∧ v.f1 < 16) : Ev (fun k => folkmootref04_Encode.f k v.f0 v.f1) (viewB v) := by
  unfold folkmootref04_Encode.f
  have c0 : ((v.f0.toNat : Nat) : Int) = v.f0 := Int.toNat_of_nonneg h.1
  have h1 := refUint_ev v.f0.toNat (by omega)
  rw [c0] at h1
  have hl := uintB_length v.f0.toNat (by omega)
  refine Ev.bind h1 (Ev.const fun _ => ?_)
  rw [if_pos (by omega), show v.f1 % 256 = v.f1 by omega]
  rfl
theorem refLabel_ev {x : S27} (h : FormL x) : Ev (fun k => folkmootref05_Encode.f k x.f0.f0 x.f0.f1 x.f1 x.f2) (labB x) := by
  unfold folkmootref05_Encode.f
  have c0 : ((x.f1.toNat : Nat) : Int) = x.f1 := Int.toNat_of_nonneg (by have := h.seq; omega)
  have h1 := refUint_ev x.f1.toNat (by have := h.seq; omega)
  rw [c0] at h1
  have hl := uintB_length x.f1.toNat (by have := h.seq; omega)
  have hv := viewB_length h.n0
  refine Ev.bind (refView_ev h.n0 h.p0) (Ev.bind h1 (Ev.const fun _ => ?_))
  rw [if_pos (by omega), Option.bind_some, if_pos (by rw [List.length_append]; omega), show x.f2 % 256 = x.f2 by have := h.p1; omega]
  unfold labB
  simp
theorem refBytes_ev {m : List Int} (h : m.length ≤ 64) : Ev (fun k => folkmootref02_Bytes.f k m) (uintB m.length ++ m) := by
  unfold folkmootref02_Bytes.f
  have e : IntKind.u64.wrap (m.length : Int) = (m.length : Int) := by rw [u64_wrap, Nat.mod_eq_of_lt (by omega)]
  rw [e]
  have hl := uintB_length m.length (by omega)
  refine Ev.bind (refUint_ev m.length (by omega)) (Ev.const fun _ => ?_)
  rw [if_pos (by omega)]
theorem refone_ev {x : S32} (h : FormL x.f0) (hm : x.f1.length ≤ 64) : Ev (fun k => folkmootref15_one.f k x.f0.f0.f0 x.f0.f0.f1 x.f0.f1 x.f0.f2 x.f1) (entB x) := by
  unfold folkmootref15_one.f
  have hl := labB_length h
  have hl2 := uintB_length x.f1.length (by omega)
  refine Ev.bind (refLabel_ev h) (Ev.bind (refBytes_ev hm) (Ev.const fun _ => ?_))
  rw [if_pos (by rw [List.length_append]; omega)]
  rfl
theorem refAll_ord (s : S53) (h : SOk s) (hn : s.f2 < 4398046511104) (ho : s.f1.length ≤ 1000000) : ∀ (d i : Nat) (p : List Int), d = s.f1.length - i → i ≤ s.f1.length → p.length + d * 22 ≤ 10000000000 → Ev (fun k => folkmootref15_All.l1 k p (i : Int) s.f0 s.f1 s.f2 s.f3.f0 s.f3.f1) (p ++ ((s.f1.drop i).flatMap labB ++ restB s)) := by
  intro d
  induction d with
  | zero =>
    intro i p hd hi hp
    have : i = s.f1.length := by omega
    subst this
    obtain ⟨-, p0, p1⟩ := fV_true (n := s.f3.f0) (p := s.f3.f1) (by unfold fV; rw [h.form]; rfl)
    have c0 : ((s.f2.toNat : Nat) : Int) = s.f2 := Int.toNat_of_nonneg h.nx
    have e : IntKind.u64.wrap s.f2 = s.f2 := by
      have := u64_wrap s.f2.toNat
      rw [c0] at this
      rw [this, Nat.mod_eq_of_lt (by omega), c0]
    have h1 := refUint_ev s.f2.toNat (by omega)
    rw [c0] at h1
    have hl := uintB_length s.f2.toNat (by omega)
    have hv := viewB_length h.hn
    refine Ev.step (fun k => by rw [folkmootref15_All.l1, if_neg (by omega), e]) (Ev.bind h1 ?_)
    simp only [show p.length + (uintB s.f2.toNat).length < 140737488355328 by omega, if_true, Option.bind_some]
    refine Ev.bind (refView_ev h.hn ⟨p0, p1⟩) (Ev.const fun _ => ?_)
    rw [if_pos (by rw [List.length_append]; omega), List.drop_length]
    unfold restB
    simp
  | succ d ih =>
    intro i p hd hi hp
    have hlt : i < s.f1.length := by omega
    have hf := h.ord _ (List.getElem_mem hlt)
    have hl := labB_length hf
    have h2 := ih (i + 1) (p ++ labB s.f1[i]) (by omega) (by omega) (by rw [List.length_append]; omega)
    refine Ev.step (fun k => by rw [folkmootref15_All.l1, if_pos (by omega), if_pos (by omega), rdL_nat hlt, wrap_nat (by omega)]) (Ev.bind (refLabel_ev hf) ?_)
    simp only [show p.length + (labB s.f1[i]).length < 140737488355328 by omega, if_true]
    rw [List.append_assoc] at h2
    rw [List.drop_eq_getElem_cons hlt, List.flatMap_cons, List.append_assoc]
    exact h2
theorem refAll_con (s : S53) (h : SOk s) (hn : s.f2 < 4398046511104) (hc : s.f0.length ≤ 1000000) (ho : s.f1.length ≤ 1000000) : ∀ (d i : Nat) (p : List Int), d = s.f0.length - i → i ≤ s.f0.length → p.length + d * 96 ≤ 1000000000 → Ev (fun k => folkmootref15_All.l0 k p (i : Int) s.f0 s.f1 s.f2 s.f3.f0 s.f3.f1) (p ++ ((s.f0.drop i).flatMap entB ++ (uintB s.f1.length ++ (s.f1.flatMap labB ++ restB s)))) := by
  intro d
  induction d with
  | zero =>
    intro i p hd hi hp
    have : i = s.f0.length := by omega
    subst this
    have e : IntKind.u64.wrap (s.f1.length : Int) = (s.f1.length : Int) := by rw [u64_wrap, Nat.mod_eq_of_lt (by omega)]
    have hl := uintB_length s.f1.length (by omega)
    refine Ev.step (fun k => by rw [folkmootref15_All.l0, if_neg (by omega), e]) (Ev.bind (refUint_ev s.f1.length (by omega)) ?_)
    simp only [show p.length + (uintB s.f1.length).length < 140737488355328 by omega, if_true]
    have h2 := refAll_ord s h hn ho s.f1.length 0 (p ++ uintB s.f1.length) rfl (Nat.zero_le _) (by rw [List.length_append]; omega)
    rw [List.drop_zero, List.append_assoc] at h2
    rw [List.drop_length, List.flatMap_nil, List.nil_append]
    exact h2
  | succ d ih =>
    intro i p hd hi hp
    have hlt : i < s.f0.length := by omega
    have hf := h.con _ (List.getElem_mem hlt)
    have hl := entB_length hf.1 hf.2.1
    have h2 := ih (i + 1) (p ++ entB s.f0[i]) (by omega) (by omega) (by rw [List.length_append]; omega)
    refine Ev.step (fun k => by rw [folkmootref15_All.l0, if_pos (by omega), if_pos (by omega), rdE_nat hlt, wrap_nat (by omega)]) (Ev.bind (refone_ev hf.1 hf.2.1) ?_)
    simp only [show p.length + (entB s.f0[i]).length < 140737488355328 by omega, if_true]
    rw [List.append_assoc] at h2
    rw [List.drop_eq_getElem_cons hlt, List.flatMap_cons, List.append_assoc]
    exact h2
theorem refAll_ev (s : S53) (h : SOk s) (hn : s.f2 < 4398046511104) (hc : s.f0.length ≤ 1000000) (ho : s.f1.length ≤ 1000000) : Ev (fun k => folkmootref15_All.f k s.f0 s.f1 s.f2 s.f3.f0 s.f3.f1) (2 :: bodyB s) := by
  unfold folkmootref15_All.f
  have e : IntKind.u64.wrap (s.f0.length : Int) = (s.f0.length : Int) := by rw [u64_wrap, Nat.mod_eq_of_lt (by omega)]
  have hl := uintB_length s.f0.length (by omega)
  simp only [Option.bind_some, e]
  refine Ev.bind (refUint_ev s.f0.length (by omega)) ?_
  simp only [List.length_singleton, show 1 + (uintB s.f0.length).length < 140737488355328 by omega, if_true]
  have h2 := refAll_con s h hn hc ho s.f0.length 0 ([2] ++ uintB s.f0.length) rfl (Nat.zero_le _) (by simp; omega)
  rw [List.drop_zero] at h2
  have e2 : [2] ++ uintB s.f0.length ++ (s.f0.flatMap entB ++ (uintB s.f1.length ++ (s.f1.flatMap labB ++ restB s))) = 2 :: bodyB s := by unfold bodyB; simp
  rw [e2] at h2
  exact h2
end Go.Proofs.Ytioooiflpabngaa.PAll
end
section
namespace Go.Proofs.Ytioooiflpabngaa.PAll
open Go.RowKit Go.Proofs.YtioooiflpabngaaW.PrintWords
set_option linter.unusedVariables false
set_option linter.unusedSimpArgs false
theorem index_any (l : List S27) (h : ∀ x ∈ l, rightL x) (hl : l.length < 9223372036854775807) : ∀ (d i : Nat), d = l.length - i → i ≤ l.length → ∃ r : Int, Ev (fun k => api_Label_126.l0 k l (l.length : Int) (i : Int)) r ∧ (r < 0 → ∀ j (hj : j < l.length), i ≤ j → FormL l[j]) := by
  intro d
  induction d with
  | zero =>
    intro i hd hi
    exact ⟨-1, Ev.step (fun k => by rw [api_Label_126.l0, if_neg (by omega)]) (Ev.const fun _ => rfl), fun _ j hj hij => by omega⟩
  | succ d ih =>
    intro i hd hi
    have hlt : i < l.length := by omega
    obtain ⟨f, h1, -⟩ := forms_alike l[i] (h _ (List.getElem_mem hlt))
    have h2 : content_Right_1.f l[i].f0.f0 l[i].f0.f1 l[i].f1 l[i].f2 = some (!f) := by
      unfold content_Right_1.f
      rw [h1]
      rfl
    obtain ⟨r, hr, hc⟩ := ih (i + 1) (by omega) (by omega)
    have start : ∀ q, Ev (fun k => if (!f) = true then some (i : Int) else api_Label_126.l0 k l (l.length : Int) ((i + 1 : Nat) : Int)) q → Ev (fun k => api_Label_126.l0 k l (l.length : Int) (i : Int)) q := fun q hq => by
      refine Ev.step (fun k => ?_) hq
      rw [api_Label_126.l0, if_pos (by omega), if_pos (by omega), if_pos (by omega), rdL_nat hlt, h2, Option.bind_some, wrap_nat (by omega)]
    cases f with
    | false => exact ⟨(i : Int), start _ (Ev.const fun _ => by simp), fun hn => by omega⟩
    | true =>
      refine ⟨r, start _ (by simpa using hr), fun hn j hj hij => ?_⟩
      rcases Nat.lt_or_ge i j with h3 | h3
      · exact hc hn j hj h3
      · have : j = i := by omega
        subst this
        exact form_of (h _ (List.getElem_mem hlt)) h1
theorem progRight_any (s : S53) (h : rightS s) (hc : s.f0.length < 4398046511104) (ho : s.f1.length < 4398046511104) : ∀ (d i : Nat), d = s.f0.length - i → i ≤ s.f0.length → ∃ b, Ev (fun k => content_Right.l0 k s.f0 (s.f0.length : Int) (i : Int) s.f0 s.f1 s.f2 s.f3.f0 s.f3.f1) b ∧
    (b = true → (∀ j (hj : j < s.f0.length), i ≤ j → (FormL s.f0[j].f0 ∧ s.f0[j].f1.length ≤ 64) ∧ (1 ≤ j → ltL (s.f0[j - 1]'(by omega)).f0 s.f0[j].f0)) ∧ (∀ x ∈ s.f1, FormL x) ∧ dup [] s.f1 = false ∧ (1 ≤ s.f2 ∧ s.f2 ≤ (s.f1.length : Int) + 1) ∧ ident_Form.f s.f3.f0 s.f3.f1 = some true) := by
  intro d
  induction d with
  | zero =>
    intro i hd hi
    obtain ⟨r, hr, hrc⟩ := index_any s.f1 h.2.1.2 (by omega) s.f1.length 0 rfl (Nat.zero_le _)
    have hix : Ev (fun k => api_Label_105.f k s.f1) (decide (r ≥ 0)) := by
      unfold api_Label_105.f api_Label_126.f
      exact Ev.bind hr (Ev.const fun _ => rfl)
    have e2 : wrap64 ((s.f1.length : Int) + 1) = (s.f1.length : Int) + 1 := by rw [wrap_nat (by omega)]; omega
    have start : ∀ q, Ev (fun k => if decide (r ≥ 0) = true then (some false) else (if dup [] s.f1 = true then (some false) else (if s.f2 ≥ 1 then (if s.f2 ≤ (s.f1.length : Int) + 1 then some (fV s.f3.f0 s.f3.f1) else (some false)) else (some false)))) q → Ev (fun k => content_Right.l0 k s.f0 (s.f0.length : Int) (i : Int) s.f0 s.f1 s.f2 s.f3.f0 s.f3.f1) q := fun q hq => by
      refine Ev.step (fun k => by rw [content_Right.l0, if_neg (by omega)]) (Ev.bind hix ?_)
      simp only [twice_eq ho, Option.bind_some, e2, fV_eq]
      exact hq
    by_cases c0 : r ≥ 0
    · exact ⟨false, start _ (Ev.const fun _ => by rw [if_pos (by simpa using c0)]), fun hx => by cases hx⟩
    · cases c1 : dup [] s.f1 with
      | true =>
        rw [c1] at start
        exact ⟨false, start _ (Ev.const fun _ => by rw [if_neg (by simpa using c0), if_pos rfl]), fun hx => by cases hx⟩
      | false =>
        rw [c1] at start
        by_cases c2 : s.f2 ≥ 1
        · by_cases c3 : s.f2 ≤ (s.f1.length : Int) + 1
          · refine ⟨_, start _ (Ev.const fun _ => by rw [if_neg (by simpa using c0), if_neg (by simp), if_pos c2, if_pos c3]), fun hx => ⟨fun j hj hij => by omega, fun x hx2 => ?_, rfl, ⟨c2, c3⟩, (fV_true hx).1⟩⟩
            obtain ⟨j, hj, rfl⟩ := List.getElem_of_mem hx2
            exact hrc (by omega) j hj (Nat.zero_le _)
          · exact ⟨false, start _ (Ev.const fun _ => by rw [if_neg (by simpa using c0), if_neg (by simp), if_pos c2, if_neg c3]), fun hx => by cases hx⟩
        · exact ⟨false, start _ (Ev.const fun _ => by rw [if_neg (by simpa using c0), if_neg (by simp), if_neg c2]), fun hx => by cases hx⟩
  | succ d ih =>
    intro i hd hi
    have hlt : i < s.f0.length := by omega
    have hre := h.1.2 _ (List.getElem_mem hlt)
    obtain ⟨f, h1, -⟩ := forms_alike s.f0[i].f0 hre.1
    obtain ⟨b, hb, hcb⟩ := ih (i + 1) (by omega) (by omega)
    have e1 : content_Form.f s.f0[i].f0.f0.f0 s.f0[i].f0.f0.f1 s.f0[i].f0.f1 s.f0[i].f0.f2 s.f0[i].f1 = some (f && decide ((s.f0[i].f1.length : Int) ≤ 64)) := by
      unfold content_Form.f
      rw [h1, Option.bind_some]
      cases f <;> simp
    have e2 : wrap64 ((i : Int) - 1) = (i : Int) - 1 := by unfold wrap64; omega
    have start : ∀ q, Ev (fun k => if (f && decide ((s.f0[i].f1.length : Int) ≤ 64)) = true then (if (i : Int) > 0 then (if 0 ≤ (i : Int) - 1 then (if (i : Int) - 1 < (s.f0.length : Int) then ((label_Compare.f k ((rd_T32 s.f0 ((i : Int) - 1)).f0.f0.f0) ((rd_T32 s.f0 ((i : Int) - 1)).f0.f0.f1) ((rd_T32 s.f0 ((i : Int) - 1)).f0.f1) ((rd_T32 s.f0 ((i : Int) - 1)).f0.f2) (s.f0[i].f0.f0.f0) (s.f0[i].f0.f0.f1) (s.f0[i].f0.f1) (s.f0[i].f0.f2)).bind fun t530 => (if t530 ≥ 0 then (some false) else (content_Right.l0 k s.f0 (s.f0.length : Int) ((i + 1 : Nat) : Int) s.f0 s.f1 s.f2 s.f3.f0 s.f3.f1))) else (none)) else (none)) else (content_Right.l0 k s.f0 (s.f0.length : Int) ((i + 1 : Nat) : Int) s.f0 s.f1 s.f2 s.f3.f0 s.f3.f1)) else (some false)) q → Ev (fun k => content_Right.l0 k s.f0 (s.f0.length : Int) (i : Int) s.f0 s.f1 s.f2 s.f3.f0 s.f3.f1) q := fun q hq => by
      refine Ev.step (fun k => ?_) hq
      rw [content_Right.l0, if_pos (by omega), if_pos (by omega), if_pos (by omega), rdE_nat hlt, e1, Option.bind_some, wrap_nat (by omega), e2]
    cases hff : (f && decide ((s.f0[i].f1.length : Int) ≤ 64)) with
    | false =>
      rw [hff] at start
      exact ⟨false, start _ (Ev.const fun _ => by simp), fun hx => by cases hx⟩
    | true =>
      rw [hff] at start
      simp only [Bool.and_eq_true, decide_eq_true_eq] at hff
      have hF : FormL s.f0[i].f0 ∧ s.f0[i].f1.length ≤ 64 := ⟨form_of hre.1 (by rw [h1, hff.1]), by omega⟩
      have fin : (1 ≤ i → ltL (s.f0[i - 1]'(by omega)).f0 s.f0[i].f0) → b = true → (∀ j (hj : j < s.f0.length), i ≤ j → (FormL s.f0[j].f0 ∧ s.f0[j].f1.length ≤ 64) ∧ (1 ≤ j → ltL (s.f0[j - 1]'(by omega)).f0 s.f0[j].f0)) ∧ (∀ x ∈ s.f1, FormL x) ∧ dup [] s.f1 = false ∧ (1 ≤ s.f2 ∧ s.f2 ≤ (s.f1.length : Int) + 1) ∧ ident_Form.f s.f3.f0 s.f3.f1 = some true := fun hl hx => by
        obtain ⟨g1, g2⟩ := hcb hx
        refine ⟨fun j hj hij => ?_, g2⟩
        rcases Nat.lt_or_ge i j with h3 | h3
        · exact g1 j hj h3
        · have : j = i := by omega
          subst this
          exact ⟨hF, hl⟩
      by_cases hz : (i : Int) > 0
      · have hl1 : i - 1 < s.f0.length := by omega
        have e3 : (i : Int) - 1 = ((i - 1 : Nat) : Int) := by omega
        have c1 : (0 : Int) ≤ ((i - 1 : Nat) : Int) := by omega
        have c2 : ((i - 1 : Nat) : Int) < (s.f0.length : Int) := by omega
        have start2 : ∀ q, Ev (fun k => (label_Compare.f k s.f0[i - 1].f0.f0.f0 s.f0[i - 1].f0.f0.f1 s.f0[i - 1].f0.f1 s.f0[i - 1].f0.f2 (s.f0[i].f0.f0.f0) (s.f0[i].f0.f0.f1) (s.f0[i].f0.f1) (s.f0[i].f0.f2)).bind fun t530 => (if t530 ≥ 0 then (some false) else (content_Right.l0 k s.f0 (s.f0.length : Int) ((i + 1 : Nat) : Int) s.f0 s.f1 s.f2 s.f3.f0 s.f3.f1))) q → Ev (fun k => content_Right.l0 k s.f0 (s.f0.length : Int) (i : Int) s.f0 s.f1 s.f2 s.f3.f0 s.f3.f1) q := fun q hq => by
          refine start q ?_
          simp only [if_true, hz, e3, c1, c2, rdE_nat hl1]
          exact hq
        by_cases hcmp : cmpL s.f0[i - 1].f0 s.f0[i].f0 ≥ 0
        · exact ⟨false, start2 _ (Ev.bind (compare_ev s.f0[i - 1].f0 s.f0[i].f0) (Ev.const fun _ => by rw [if_pos hcmp])), fun hx => by cases hx⟩
        · refine ⟨b, start2 _ (Ev.bind (compare_ev s.f0[i - 1].f0 s.f0[i].f0) ?_), fin fun _ => (cmpL_neg _ _).1 (by omega)⟩
          simp only [hcmp, if_false]
          exact hb
      · refine ⟨b, start _ ?_, fin fun h1 => by omega⟩
        simp only [if_true, hz, if_false]
        exact hb
theorem progRight_sound (s : S53) (h : rightS s) (hc : s.f0.length < 4398046511104) (ho : s.f1.length < 4398046511104) : ∃ b, Ev (fun k => content_Right.f k s.f0 s.f1 s.f2 s.f3.f0 s.f3.f1) b ∧ (b = true → RightS s) := by
  obtain ⟨b, hb, hr⟩ := progRight_any s h hc ho s.f0.length 0 rfl (Nat.zero_le _)
  refine ⟨b, hb, fun hx => ?_⟩
  obtain ⟨g1, g2, g3, g4, g5⟩ := hr hx
  obtain ⟨-, p0, p1⟩ := fV_true (n := s.f3.f0) (p := s.f3.f1) (by unfold fV; rw [g5]; rfl)
  refine ⟨fun e he => ?_, rise_adj fun j hj h1 => (g1 j hj (Nat.zero_le _)).2 h1, g2, g3, g4, g5, u64_range h.2.2.2.1, ⟨p0, p1⟩⟩
  obtain ⟨j, hj, rfl⟩ := List.getElem_of_mem he
  exact (g1 j hj (Nat.zero_le _)).1
theorem progRight_true (s : S53) (h : RightS s) (hc : s.f0.length < 4398046511104) (ho : s.f1.length < 4398046511104) : ∀ (d i : Nat), d = s.f0.length - i → i ≤ s.f0.length → Ev (fun k => content_Right.l0 k s.f0 (s.f0.length : Int) (i : Int) s.f0 s.f1 s.f2 s.f3.f0 s.f3.f1) true := by
  intro d
  induction d with
  | zero =>
    intro i hd hi
    have hix : Ev (fun k => api_Label_105.f k s.f1) false := by
      unfold api_Label_105.f api_Label_126.f
      exact Ev.bind (index_loop s.f1 h.ord (by omega) s.f1.length 0 rfl (Nat.zero_le _)) (Ev.const fun _ => by simp)
    refine Ev.step (fun k => by rw [content_Right.l0, if_neg (by omega)]) (Ev.bind hix ?_)
    have c1 : s.f2 ≥ 1 := h.next.1
    have c2 : s.f2 ≤ wrap64 ((s.f1.length : Int) + 1) := by
      rw [wrap_nat (by omega)]
      have := h.next.2
      omega
    simp only [Bool.false_eq_true, if_false, twice_eq ho, h.once, Option.bind_some, c1, c2, if_true, h.high]
    exact Ev.const fun _ => rfl
  | succ d ih =>
    intro i hd hi
    have hlt : i < s.f0.length := by omega
    have hf := h.con _ (List.getElem_mem hlt)
    have e1 : content_Form.f s.f0[i].f0.f0.f0 s.f0[i].f0.f0.f1 s.f0[i].f0.f1 s.f0[i].f0.f2 s.f0[i].f1 = some true := by
      unfold content_Form.f
      rw [hf.1.label, Option.bind_some, if_pos rfl, decide_eq_true (by omega)]
    refine Ev.step (fun k => by rw [content_Right.l0, if_pos (by omega), if_pos (by omega), if_pos (by omega), rdE_nat hlt, e1, Option.bind_some, if_pos rfl]) ?_
    by_cases hz : (i : Int) > 0
    · have e2 : wrap64 ((i : Int) - 1) = ((i - 1 : Nat) : Int) := by unfold wrap64; omega
      have hl1 : i - 1 < s.f0.length := by omega
      have c1 : (0 : Int) ≤ ((i - 1 : Nat) : Int) := by omega
      have c2 : ((i - 1 : Nat) : Int) < (s.f0.length : Int) := by omega
      have hlt2 := (cmpL_neg _ _).2 (rise_lt h.rise (show i - 1 < i by omega) hlt)
      simp only [hz, if_true, e2, c1, c2, rdE_nat hl1]
      refine Ev.bind (compare_ev s.f0[i - 1].f0 s.f0[i].f0) ?_
      have c3 : ¬ cmpL s.f0[i - 1].f0 s.f0[i].f0 ≥ 0 := by omega
      simp only [c3, if_false, wrap_nat (show i < 9223372036854775807 by omega)]
      exact ih (i + 1) (by omega) (by omega)
    · simp only [hz, if_false, wrap_nat (show i < 9223372036854775807 by omega)]
      exact ih (i + 1) (by omega) (by omega)
theorem refForm_true {x : S27} (h : FormL x) : folkmootref05_Form.f x.f0.f0 x.f0.f1 x.f1 x.f2 = some true := by
  rw [form05 _ _ _ _ h.n0.1]
  unfold fL
  rw [h.label]
  rfl
theorem rising_true (l : List S32) (h : Rise l) (hl : l.length < 9223372036854775807) : ∀ (d i : Nat), d = l.length - i → 1 ≤ i → Ev (fun k => folkmootref15_Rising.l0 k l (i : Int)) true := by
  intro d
  induction d with
  | zero =>
    intro i hd hi
    exact Ev.step (fun k => by rw [folkmootref15_Rising.l0, if_neg (by omega)]) (Ev.const fun _ => rfl)
  | succ d ih =>
    intro i hd hi
    have hlt : i < l.length := by omega
    have hl1 : i - 1 < l.length := by omega
    have e2 : wrap64 ((i : Int) - 1) = ((i - 1 : Nat) : Int) := by unfold wrap64; omega
    refine Ev.step (fun k => by rw [folkmootref15_Rising.l0, if_pos (by omega), e2, if_pos (by omega), if_pos (by omega), if_pos (by omega), rdE_nat hlt, rdE_nat hl1, wrap_nat (by omega)]) (Ev.bind (refLess_ev l[i - 1].f0 l[i].f0) ?_)
    have hlt2 := (cmpL_neg _ _).2 (rise_lt h (show i - 1 < i by omega) hlt)
    simp only [hlt2, decide_true, if_true]
    exact ih (i + 1) (by omega) (by omega)
theorem dup_not {l : List S27} (h : dup [] l = false) {i : Nat} (hi : i < l.length) : memL l[i] (l.take i) = false := by
  have e : l = l.take i ++ (l[i] :: l.drop (i + 1)) := by rw [← List.drop_eq_getElem_cons hi, List.take_append_drop]
  have h2 := h
  rw [e, dup_append] at h2
  simp only [Bool.or_eq_false_iff, List.nil_append, dup] at h2
  exact h2.2.1
theorem refRight_true1 (s : S53) (h : RightS s) (hc : s.f0.length < 4398046511104) (ho : s.f1.length < 4398046511104) : ∀ (d i : Nat), d = s.f1.length - i → i ≤ s.f1.length → Ev (fun k => folkmootref15_Right.l1 k (i : Int) s.f0 s.f1 s.f2 s.f3.f0 s.f3.f1) true := by
  intro d
  induction d with
  | zero =>
    intro i hd hi
    have e2 : wrap64 ((s.f1.length : Int) + 1) = (s.f1.length : Int) + 1 := by rw [wrap_nat (by omega)]; omega
    have hv : folkmootref04_Form.f s.f3.f0 s.f3.f1 = some true := by
      rw [form04 _ _ h.hn.1]
      unfold fV
      rw [h.high]
      rfl
    have c1 : s.f2 ≥ 1 := h.next.1
    have c2 := h.next.2
    refine Ev.step (fun k => by rw [folkmootref15_Right.l1, if_neg (by omega), e2]) (Ev.bind (show Ev (fun k => folkmootref15_Rising.f k s.f0) true from rising_true s.f0 h.rise (by omega) (s.f0.length - 1) 1 rfl (Nat.le_refl _)) ?_)
    simp only [if_true, c1, c2, hv, Option.bind_some]
    exact Ev.const fun _ => rfl
  | succ d ih =>
    intro i hd hi
    have hlt : i < s.f1.length := by omega
    have h2 := refForm_true (h.ord _ (List.getElem_mem hlt))
    have hin := refIn_ev (s.f1.take i) s.f1[i] (by rw [List.length_take]; omega)
    rw [dup_not h.once hlt] at hin
    refine Ev.step (b := fun k => (folkmootref05_In.f k (s.f1.take i) s.f1[i].f0.f0 s.f1[i].f0.f1 s.f1[i].f1 s.f1[i].f2).bind fun t516 => (if t516 = true then (some false) else (folkmootref15_Right.l1 k ((i + 1 : Nat) : Int) s.f0 s.f1 s.f2 s.f3.f0 s.f3.f1))) (fun k => ?_) ?_
    · rw [folkmootref15_Right.l1, if_pos (by omega), if_pos (by omega), rdL_nat hlt, h2, Option.bind_some, if_pos rfl, if_pos (show (i : Int) ≤ (s.f1.length : Int) by omega), Int.toNat_natCast, wrap_nat (by omega)]
    · refine Ev.bind hin ?_
      simp only [Bool.false_eq_true, if_false]
      exact ih (i + 1) (by omega) (by omega)
theorem refRight_true (s : S53) (h : RightS s) (hc : s.f0.length < 4398046511104) (ho : s.f1.length < 4398046511104) : ∀ (d i : Nat), d = s.f0.length - i → i ≤ s.f0.length → Ev (fun k => folkmootref15_Right.l0 k (i : Int) s.f0 s.f1 s.f2 s.f3.f0 s.f3.f1) true := by
  intro d
  induction d with
  | zero =>
    intro i hd hi
    exact Ev.step (fun k => by rw [folkmootref15_Right.l0, if_neg (by omega)]; rfl) (refRight_true1 s h hc ho s.f1.length 0 rfl (Nat.zero_le _))
  | succ d ih =>
    intro i hd hi
    have hlt : i < s.f0.length := by omega
    have hf := h.con _ (List.getElem_mem hlt)
    have h1 : folkmootref15_Form.f s.f0[i].f0.f0.f0 s.f0[i].f0.f0.f1 s.f0[i].f0.f1 s.f0[i].f0.f2 s.f0[i].f1 = some true := by
      unfold folkmootref15_Form.f
      rw [refForm_true hf.1, Option.bind_some, if_pos rfl, decide_eq_true (by omega)]
    refine Ev.step (fun k => by rw [folkmootref15_Right.l0, if_pos (by omega), if_pos (by omega), rdE_nat hlt, h1, Option.bind_some, if_pos rfl, wrap_nat (by omega)]) (ih (i + 1) (by omega) (by omega))
theorem rights_alike (s : S53) (h : rightS s) (hc : s.f0.length < 4398046511104) (ho : s.f1.length < 4398046511104) : ∃ b, Ev (fun k => content_Right.f k s.f0 s.f1 s.f2 s.f3.f0 s.f3.f1) b ∧ Ev (fun k => folkmootref15_Right.f k s.f0 s.f1 s.f2 s.f3.f0 s.f3.f1) b ∧ (b = true → RightS s) := by
  obtain ⟨b, hb, h1⟩ := progRight_sound s h hc ho
  obtain ⟨b', hb', h2⟩ := refRight_any s h
  refine ⟨b, hb, ?_, h1⟩
  cases b with
  | true => exact refRight_true s (h1 rfl) hc ho s.f0.length 0 rfl (Nat.zero_le _)
  | false =>
    cases b' with
    | false => exact hb'
    | true =>
      have h3 : Ev (fun k => content_Right.f k s.f0 s.f1 s.f2 s.f3.f0 s.f3.f1) true := progRight_true s (h2 rfl) hc ho s.f0.length 0 rfl (Nat.zero_le _)
      exact absurd (Ev.uniq hb h3) (by simp)
end Go.Proofs.Ytioooiflpabngaa.PAll
end
section
namespace Go.Proofs.Ytioooiflpabngaa.PAll
open Go.RowKit Go.Proofs.YtioooiflpabngaaW.PrintWords Go.Proofs.YtioooiflpabngaaW.PrintLast Go.Proofs.YtioooiflpabngaaW.PrintMore
attribute [local go_sem] max2_int min2_int max_two min_two max_three min_three max_four min_four   -- for this text's walks alone
set_option linter.unusedVariables false
set_option linter.unusedSimpArgs false
attribute [local go_sem high] eqA25
def folkmootref15_Alike.f (k : Nat) (l0_0 : List (S32)) (l0_1 : List (S27)) (a0_2 : Int) (a0_3 : Int) (a0_4 : Int) (l1_0 : List (S32)) (l1_1 : List (S27)) (a1_2 : Int) (a1_3 : Int) (a1_4 : Int) : Option (Bool) := (folkmootref15_Same.f k l0_0 l1_0).bind fun t566 => (if t566 = true then ((folkmootref05_Same.f k l0_1 l1_1).bind fun t567 => (if t567 = true then (if a0_2 = a1_2 then (some (a0_3 == a1_3 && (a0_4 == a1_4))) else (some false)) else (some false))) else (some false))
set_option maxHeartbeats 8000000 in
set_option maxRecDepth 100000 in
theorem folkmootref15_Alike.calls (k : Nat) (A0_0 : Option Addr) (c0_0 : Nat) (l0_0 : List (S32)) (A0_1 : Option Addr) (c0_1 : Nat) (l0_1 : List (S27)) (a0_2 : Int) (a0_3 : Int) (a0_4 : Int) (A1_0 : Option Addr) (c1_0 : Nat) (l1_0 : List (S32)) (A1_1 : Option Addr) (c1_1 : Nat) (l1_1 : List (S27)) (a1_2 : Int) (a1_3 : Int) (a1_4 : Int) (r : Bool) (w : World) (hr0_0 : Kd.C k32 w A0_0 l0_0.length l0_0) (hc0_0 : l0_0.length ≤ c0_0) (hr0_1 : Kd.C k27 w A0_1 l0_1.length l0_1) (hc0_1 : l0_1.length ≤ c0_1) (hr1_0 : Kd.C k32 w A1_0 l1_0.length l1_0) (hc1_0 : l1_0.length ≤ c1_0) (hr1_1 : Kd.C k27 w A1_1 l1_1.length l1_1) (hc1_1 : l1_1.length ≤ c1_1) (h : folkmootref15_Alike.f k l0_0 l0_1 a0_2 a0_3 a0_4 l1_0 l1_1 a1_2 a1_3 a1_4 = some r) :
  Calls Try.prog 48 #[.agg #[.slice A0_0 l0_0.length c0_0, .slice A0_1 l0_1.length c0_1, .int .i64 a0_2, .int .u64 a0_3, .int .i64 a0_4], .agg #[.slice A1_0 l1_0.length c1_0, .slice A1_1 l1_1.length c1_1, .int .i64 a1_2, .int .u64 a1_3, .int .i64 a1_4]] w fun e w' => e = .returned (.bool r) ∧ Below w.heap.size w w' := by
 have hu53 := Try.underlying53
 have hu25 := Try.underlying25
 have HR0_0 := Aside0.mk hr0_0
 have HC0_0 := Aside0.mk hc0_0
 clear hr0_0 hc0_0
 have HR0_1 := Aside0.mk hr0_1
 have HC0_1 := Aside0.mk hc0_1
 clear hr0_1 hc0_1
 have HR1_0 := Aside0.mk hr1_0
 have HC1_0 := Aside0.mk hc1_0
 clear hr1_0 hc1_0
 have HR1_1 := Aside0.mk hr1_1
 have HC1_1 := Aside0.mk hc1_1
 clear hr1_1 hc1_1
 have HB := Aside0.mk (Below.refl w.heap.size w)
 have H : ((folkmootref15_Same.f k l0_0 l1_0).bind fun t566 => (if t566 = true then ((folkmootref05_Same.f k l0_1 l1_1).bind fun t567 => (if t567 = true then (if a0_2 = a1_2 then (some (a0_3 == a1_3 && (a0_4 == a1_4))) else (some false)) else (some false))) else (some false))) = some r := h
 clear h
 replace H := Option.bind_eq_some_iff.mp H
 obtain ⟨t566, A30, H⟩ := H
 replace H : (if t566 = true then ((folkmootref05_Same.f k l0_1 l1_1).bind fun t567 => (if t567 = true then (if a0_2 = a1_2 then (some (a0_3 == a1_3 && (a0_4 == a1_4))) else (some false)) else (some false))) else (some false)) = some r := H
 have A3 := Aside0.mk A30
 clear A30
 by_cases c4 : t566 = true
 ·
  subst c4
  have H1 : ((folkmootref05_Same.f k l0_1 l1_1).bind fun t567 => (if t567 = true then (if a0_2 = a1_2 then (some (a0_3 == a1_3 && (a0_4 == a1_4))) else (some false)) else (some false))) = some r := by rw [if_pos rfl] at H; exact H
  clear H
  have H := H1
  clear H1
  replace H := Option.bind_eq_some_iff.mp H
  obtain ⟨t567, A50, H⟩ := H
  replace H : (if t567 = true then (if a0_2 = a1_2 then (some (a0_3 == a1_3 && (a0_4 == a1_4))) else (some false)) else (some false)) = some r := H
  have A5 := Aside0.mk A50
  clear A50
  by_cases c6 : t567 = true
  ·
   subst c6
   have H1 : (if a0_2 = a1_2 then (some (a0_3 == a1_3 && (a0_4 == a1_4))) else (some false)) = some r := by rw [if_pos rfl] at H; exact H
   clear H
   have H := H1
   clear H1
   by_cases c7 : a0_2 = a1_2
   ·
    rw [if_pos c7] at H
    have c7b0 : (a0_2 == a1_2) = true := beq_iff_eq.mpr c7
    have c7b1 : (a0_2 != a1_2) = false := bne_eq_false_iff_eq.mpr c7
    clear c7
    obtain rfl := Option.some.inj H
    go_enter Try.func48, Try.ntmps48
    go_wp2_with (first | ((with_reducible refine gate_dst (N := 2) rfl ?_); refine box_event ?hg (N := 2) ?hd (cs := #[.slice A0_0 l0_0.length c0_0, .slice A0_1 l0_1.length c0_1, .int .i64 a0_2, .int .u64 a0_3, .int .i64 a0_4]) (t := 53) ?hr ?_; (case hd => rfl); (case hg => rfl); (case hr => first | (go_simp; done) | (go_simp; rfl)); intro gb564 hg w8 hbox hb; have n0_ := Aside0.mk (below_step zb_ hb); have n1_ := Aside0.mk (hbox); have n2_ := Aside0.mk ((by rw [hg]; exact (below_size zb_) : w.heap.size ≤ gb564)); have n3_ := Aside0.mk ((by rw [hg]; exact (below_size zb_) : w.heap.size ≤ gb564)); clear HB; have HB := n0_; have BK564 := n1_; have GW564 := n2_; have GE564 := n3_; clear n0_ n1_ n2_ n3_; clear hb hbox hg) | ((with_reducible refine gate_dst (N := 3) rfl ?_); refine box_event ?hg (N := 3) ?hd (cs := #[.slice A1_0 l1_0.length c1_0, .slice A1_1 l1_1.length c1_1, .int .i64 a1_2, .int .u64 a1_3, .int .i64 a1_4]) (t := 53) ?hr ?_; (case hd => rfl); (case hg => rfl); (case hr => first | (go_simp; done) | (go_simp; rfl)); intro gb565 hg w9 hbox hb; have n0_ := zk_ BK564 hb; have n1_ := Aside0.mk (below_step zb_ hb); have n2_ := Aside0.mk (hbox); have n3_ := Aside0.mk ((by rw [hg]; exact (below_size zb_) : w.heap.size ≤ gb565)); have n4_ := Aside0.mk ((by rw [hg]; exact (below_size zb_) : w.heap.size ≤ gb565)); have n5_ := Aside0.mk ((by rw [hg]; exact Nat.ne_of_lt (blk_lt (g := gb564) (o := .cells #[.slice A0_0 l0_0.length c0_0, .slice A0_1 l0_1.length c0_1, .int .i64 a0_2, .int .u64 a0_3, .int .i64 a0_4] 53 (0, 0)) (by (with_reducible repeat (first | refine blk_drewN ?_ _ | refine blk_drew ?_ | refine blk_alloc ?_ _)); exact BK564.out)) : gb564 ≠ gb565)); have n6_ := Aside0.mk ((by rw [hg]; exact Nat.ne_of_gt (blk_lt (g := gb564) (o := .cells #[.slice A0_0 l0_0.length c0_0, .slice A0_1 l0_1.length c0_1, .int .i64 a0_2, .int .u64 a0_3, .int .i64 a0_4] 53 (0, 0)) (by (with_reducible repeat (first | refine blk_drewN ?_ _ | refine blk_drew ?_ | refine blk_alloc ?_ _)); exact BK564.out)) : gb565 ≠ gb564)); clear BK564; clear HB; have BK564 := n0_; have HB := n1_; have BK565 := n2_; have GW565 := n3_; have GE565 := n4_; have NB564_565 := n5_; have NB565_564 := n6_; clear n0_ n1_ n2_ n3_ n4_ n5_ n6_; clear hb hbox hg; have hnb10 := NB564_565.out; have hnc10 := NB565_564.out; have hcz11_0 : w9.cell? ⟨gb564, 0, none⟩ = some (.slice A0_0 l0_0.length c0_0) := (blk_cell BK564.out 0).trans rfl; have hcz11_1 : w9.cell? ⟨gb564, 1, none⟩ = some (.slice A0_1 l0_1.length c0_1) := (blk_cell BK564.out 1).trans rfl; have hcz11_2 : w9.cell? ⟨gb564, 2, none⟩ = some (.int .i64 a0_2) := (blk_cell BK564.out 2).trans rfl; have hcz11_3 : w9.cell? ⟨gb564, 3, none⟩ = some (.int .u64 a0_3) := (blk_cell BK564.out 3).trans rfl; have hcz11_4 : w9.cell? ⟨gb564, 4, none⟩ = some (.int .i64 a0_4) := (blk_cell BK564.out 4).trans rfl; have hfz11_0 := blk_frozen BK564.out 0; have hfz11_1 := blk_frozen BK564.out 1; have hfz11_2 := blk_frozen BK564.out 2; have hfz11_3 := blk_frozen BK564.out 3; have hfz11_4 := blk_frozen BK564.out 4; have hcz12_0 : w9.cell? ⟨gb565, 0, none⟩ = some (.slice A1_0 l1_0.length c1_0) := (blk_cell BK565.out 0).trans rfl; have hcz12_1 : w9.cell? ⟨gb565, 1, none⟩ = some (.slice A1_1 l1_1.length c1_1) := (blk_cell BK565.out 1).trans rfl; have hcz12_2 : w9.cell? ⟨gb565, 2, none⟩ = some (.int .i64 a1_2) := (blk_cell BK565.out 2).trans rfl; have hcz12_3 : w9.cell? ⟨gb565, 3, none⟩ = some (.int .u64 a1_3) := (blk_cell BK565.out 3).trans rfl; have hcz12_4 : w9.cell? ⟨gb565, 4, none⟩ = some (.int .i64 a1_4) := (blk_cell BK565.out 4).trans rfl; have hfz12_0 := blk_frozen BK565.out 0; have hfz12_1 := blk_frozen BK565.out 1; have hfz12_2 := blk_frozen BK565.out 2; have hfz12_3 := blk_frozen BK565.out 3; have hfz12_4 := blk_frozen BK565.out 4) | ((with_reducible refine gate_callee (f := 27) rfl ?_); refine goesL_ (some 9) rfl rfl Try.func27 (by kernel_rfl) rfl #[.slice A0_0 l0_0.length c0_0, .slice A1_0 l1_0.length c1_0] rfl za_ ?_; (with_reducible refine (folkmootref15_Same.calls k _ _ l0_0 _ _ l1_0 true _ ?side1 ?side2 ?side3 ?side4 A3.out).mono ?_); (case side1 => exact zc_ HR0_0 HB); (case side2 => exact HC0_0.out); (case side3 => exact zc_ HR1_0 HB); (case side4 => exact HC1_0.out); rintro e w' ⟨rfl, ⟨nd, rfl⟩⟩; refine ⟨_, rfl, ?_⟩) | (go_at_call 30; (with_reducible refine (folkmootref05_Same.calls k _ _ l0_1 _ _ l1_1 true _ ?side1 ?side2 ?side3 ?side4 A5.out).mono ?_); (case side1 => repeat (first | exact (Kd.C_below HR0_1.out zb_) | (with_reducible refine Kd.C_alloc ?_ _) | (with_reducible refine Kd.C_drewN ?_ _) | (with_reducible refine Kd.C_drew ?_))); (case side2 => exact HC0_1.out); (case side3 => repeat (first | exact (Kd.C_below HR1_1.out zb_) | (with_reducible refine Kd.C_alloc ?_ _) | (with_reducible refine Kd.C_drewN ?_ _) | (with_reducible refine Kd.C_drew ?_))); (case side4 => exact HC1_1.out); rintro e w' ⟨rfl, ⟨nd, rfl⟩⟩))
    go_ret
    exact ⟨by first | rfl | (simp [errW_none, errW_some] <;> rfl) | (simp [*, errW_none, errW_some] <;> rfl), by repeat (first | (with_reducible first | exact HB.out | apply below_alloc | apply pw_below_drewN | apply below_drew1 | refine below_set ?_ GE564.out | refine below_set ?_ GE565.out) | exact HB.out)⟩
   ·
    rw [if_neg c7] at H
    have c7b0 : (a0_2 == a1_2) = false := beq_eq_false_iff_ne.mpr c7
    have c7b1 : (a0_2 != a1_2) = true := bne_iff_ne.mpr c7
    obtain rfl := Option.some.inj H
    go_enter Try.func48, Try.ntmps48
    go_wp2_with (first | ((with_reducible refine gate_dst (N := 2) rfl ?_); refine box_event ?hg (N := 2) ?hd (cs := #[.slice A0_0 l0_0.length c0_0, .slice A0_1 l0_1.length c0_1, .int .i64 a0_2, .int .u64 a0_3, .int .i64 a0_4]) (t := 53) ?hr ?_; (case hd => rfl); (case hg => rfl); (case hr => first | (go_simp; done) | (go_simp; rfl)); intro gb564 hg w13 hbox hb; have n0_ := Aside0.mk (below_step zb_ hb); have n1_ := Aside0.mk (hbox); have n2_ := Aside0.mk ((by rw [hg]; exact (below_size zb_) : w.heap.size ≤ gb564)); have n3_ := Aside0.mk ((by rw [hg]; exact (below_size zb_) : w.heap.size ≤ gb564)); clear HB; have HB := n0_; have BK564 := n1_; have GW564 := n2_; have GE564 := n3_; clear n0_ n1_ n2_ n3_; clear hb hbox hg) | ((with_reducible refine gate_dst (N := 3) rfl ?_); refine box_event ?hg (N := 3) ?hd (cs := #[.slice A1_0 l1_0.length c1_0, .slice A1_1 l1_1.length c1_1, .int .i64 a1_2, .int .u64 a1_3, .int .i64 a1_4]) (t := 53) ?hr ?_; (case hd => rfl); (case hg => rfl); (case hr => first | (go_simp; done) | (go_simp; rfl)); intro gb565 hg w14 hbox hb; have n0_ := zk_ BK564 hb; have n1_ := Aside0.mk (below_step zb_ hb); have n2_ := Aside0.mk (hbox); have n3_ := Aside0.mk ((by rw [hg]; exact (below_size zb_) : w.heap.size ≤ gb565)); have n4_ := Aside0.mk ((by rw [hg]; exact (below_size zb_) : w.heap.size ≤ gb565)); have n5_ := Aside0.mk ((by rw [hg]; exact Nat.ne_of_lt (blk_lt (g := gb564) (o := .cells #[.slice A0_0 l0_0.length c0_0, .slice A0_1 l0_1.length c0_1, .int .i64 a0_2, .int .u64 a0_3, .int .i64 a0_4] 53 (0, 0)) (by (with_reducible repeat (first | refine blk_drewN ?_ _ | refine blk_drew ?_ | refine blk_alloc ?_ _)); exact BK564.out)) : gb564 ≠ gb565)); have n6_ := Aside0.mk ((by rw [hg]; exact Nat.ne_of_gt (blk_lt (g := gb564) (o := .cells #[.slice A0_0 l0_0.length c0_0, .slice A0_1 l0_1.length c0_1, .int .i64 a0_2, .int .u64 a0_3, .int .i64 a0_4] 53 (0, 0)) (by (with_reducible repeat (first | refine blk_drewN ?_ _ | refine blk_drew ?_ | refine blk_alloc ?_ _)); exact BK564.out)) : gb565 ≠ gb564)); clear BK564; clear HB; have BK564 := n0_; have HB := n1_; have BK565 := n2_; have GW565 := n3_; have GE565 := n4_; have NB564_565 := n5_; have NB565_564 := n6_; clear n0_ n1_ n2_ n3_ n4_ n5_ n6_; clear hb hbox hg; have hnb15 := NB564_565.out; have hnc15 := NB565_564.out; have hcz16_0 : w14.cell? ⟨gb564, 0, none⟩ = some (.slice A0_0 l0_0.length c0_0) := (blk_cell BK564.out 0).trans rfl; have hcz16_1 : w14.cell? ⟨gb564, 1, none⟩ = some (.slice A0_1 l0_1.length c0_1) := (blk_cell BK564.out 1).trans rfl; have hcz16_2 : w14.cell? ⟨gb564, 2, none⟩ = some (.int .i64 a0_2) := (blk_cell BK564.out 2).trans rfl; have hcz16_3 : w14.cell? ⟨gb564, 3, none⟩ = some (.int .u64 a0_3) := (blk_cell BK564.out 3).trans rfl; have hcz16_4 : w14.cell? ⟨gb564, 4, none⟩ = some (.int .i64 a0_4) := (blk_cell BK564.out 4).trans rfl; have hfz16_0 := blk_frozen BK564.out 0; have hfz16_1 := blk_frozen BK564.out 1; have hfz16_2 := blk_frozen BK564.out 2; have hfz16_3 := blk_frozen BK564.out 3; have hfz16_4 := blk_frozen BK564.out 4; have hcz17_0 : w14.cell? ⟨gb565, 0, none⟩ = some (.slice A1_0 l1_0.length c1_0) := (blk_cell BK565.out 0).trans rfl; have hcz17_1 : w14.cell? ⟨gb565, 1, none⟩ = some (.slice A1_1 l1_1.length c1_1) := (blk_cell BK565.out 1).trans rfl; have hcz17_2 : w14.cell? ⟨gb565, 2, none⟩ = some (.int .i64 a1_2) := (blk_cell BK565.out 2).trans rfl; have hcz17_3 : w14.cell? ⟨gb565, 3, none⟩ = some (.int .u64 a1_3) := (blk_cell BK565.out 3).trans rfl; have hcz17_4 : w14.cell? ⟨gb565, 4, none⟩ = some (.int .i64 a1_4) := (blk_cell BK565.out 4).trans rfl; have hfz17_0 := blk_frozen BK565.out 0; have hfz17_1 := blk_frozen BK565.out 1; have hfz17_2 := blk_frozen BK565.out 2; have hfz17_3 := blk_frozen BK565.out 3; have hfz17_4 := blk_frozen BK565.out 4) | ((with_reducible refine gate_callee (f := 27) rfl ?_); refine goesL_ (some 9) rfl rfl Try.func27 (by kernel_rfl) rfl #[.slice A0_0 l0_0.length c0_0, .slice A1_0 l1_0.length c1_0] rfl za_ ?_; (with_reducible refine (folkmootref15_Same.calls k _ _ l0_0 _ _ l1_0 true _ ?side1 ?side2 ?side3 ?side4 A3.out).mono ?_); (case side1 => exact zc_ HR0_0 HB); (case side2 => exact HC0_0.out); (case side3 => exact zc_ HR1_0 HB); (case side4 => exact HC1_0.out); rintro e w' ⟨rfl, ⟨nd, rfl⟩⟩; refine ⟨_, rfl, ?_⟩) | (go_at_call 30; (with_reducible refine (folkmootref05_Same.calls k _ _ l0_1 _ _ l1_1 true _ ?side1 ?side2 ?side3 ?side4 A5.out).mono ?_); (case side1 => repeat (first | exact (Kd.C_below HR0_1.out zb_) | (with_reducible refine Kd.C_alloc ?_ _) | (with_reducible refine Kd.C_drewN ?_ _) | (with_reducible refine Kd.C_drew ?_))); (case side2 => exact HC0_1.out); (case side3 => repeat (first | exact (Kd.C_below HR1_1.out zb_) | (with_reducible refine Kd.C_alloc ?_ _) | (with_reducible refine Kd.C_drewN ?_ _) | (with_reducible refine Kd.C_drew ?_))); (case side4 => exact HC1_1.out); rintro e w' ⟨rfl, ⟨nd, rfl⟩⟩))
    go_ret
    exact ⟨by first | rfl | (simp [errW_none, errW_some] <;> rfl) | (simp [*, errW_none, errW_some] <;> rfl), by repeat (first | (with_reducible first | exact HB.out | apply below_alloc | apply pw_below_drewN | apply below_drew1 | refine below_set ?_ GE564.out | refine below_set ?_ GE565.out) | exact HB.out)⟩
  ·
   replace c6 := Bool.eq_false_iff.mpr c6
   subst c6
   have H1 : (some false) = some r := by rw [if_neg (show ¬ (false = true) by decide)] at H; exact H
   clear H
   have H := H1
   clear H1
   obtain rfl := Option.some.inj H
   go_enter Try.func48, Try.ntmps48
   go_wp2_with (first | ((with_reducible refine gate_dst (N := 2) rfl ?_); refine box_event ?hg (N := 2) ?hd (cs := #[.slice A0_0 l0_0.length c0_0, .slice A0_1 l0_1.length c0_1, .int .i64 a0_2, .int .u64 a0_3, .int .i64 a0_4]) (t := 53) ?hr ?_; (case hd => rfl); (case hg => rfl); (case hr => first | (go_simp; done) | (go_simp; rfl)); intro gb564 hg w18 hbox hb; have n0_ := Aside0.mk (below_step zb_ hb); have n1_ := Aside0.mk (hbox); have n2_ := Aside0.mk ((by rw [hg]; exact (below_size zb_) : w.heap.size ≤ gb564)); have n3_ := Aside0.mk ((by rw [hg]; exact (below_size zb_) : w.heap.size ≤ gb564)); clear HB; have HB := n0_; have BK564 := n1_; have GW564 := n2_; have GE564 := n3_; clear n0_ n1_ n2_ n3_; clear hb hbox hg) | ((with_reducible refine gate_dst (N := 3) rfl ?_); refine box_event ?hg (N := 3) ?hd (cs := #[.slice A1_0 l1_0.length c1_0, .slice A1_1 l1_1.length c1_1, .int .i64 a1_2, .int .u64 a1_3, .int .i64 a1_4]) (t := 53) ?hr ?_; (case hd => rfl); (case hg => rfl); (case hr => first | (go_simp; done) | (go_simp; rfl)); intro gb565 hg w19 hbox hb; have n0_ := zk_ BK564 hb; have n1_ := Aside0.mk (below_step zb_ hb); have n2_ := Aside0.mk (hbox); have n3_ := Aside0.mk ((by rw [hg]; exact (below_size zb_) : w.heap.size ≤ gb565)); have n4_ := Aside0.mk ((by rw [hg]; exact (below_size zb_) : w.heap.size ≤ gb565)); have n5_ := Aside0.mk ((by rw [hg]; exact Nat.ne_of_lt (blk_lt (g := gb564) (o := .cells #[.slice A0_0 l0_0.length c0_0, .slice A0_1 l0_1.length c0_1, .int .i64 a0_2, .int .u64 a0_3, .int .i64 a0_4] 53 (0, 0)) (by (with_reducible repeat (first | refine blk_drewN ?_ _ | refine blk_drew ?_ | refine blk_alloc ?_ _)); exact BK564.out)) : gb564 ≠ gb565)); have n6_ := Aside0.mk ((by rw [hg]; exact Nat.ne_of_gt (blk_lt (g := gb564) (o := .cells #[.slice A0_0 l0_0.length c0_0, .slice A0_1 l0_1.length c0_1, .int .i64 a0_2, .int .u64 a0_3, .int .i64 a0_4] 53 (0, 0)) (by (with_reducible repeat (first | refine blk_drewN ?_ _ | refine blk_drew ?_ | refine blk_alloc ?_ _)); exact BK564.out)) : gb565 ≠ gb564)); clear BK564; clear HB; have BK564 := n0_; have HB := n1_; have BK565 := n2_; have GW565 := n3_; have GE565 := n4_; have NB564_565 := n5_; have NB565_564 := n6_; clear n0_ n1_ n2_ n3_ n4_ n5_ n6_; clear hb hbox hg; have hnb20 := NB564_565.out; have hnc20 := NB565_564.out; have hcz21_0 : w19.cell? ⟨gb564, 0, none⟩ = some (.slice A0_0 l0_0.length c0_0) := (blk_cell BK564.out 0).trans rfl; have hcz21_1 : w19.cell? ⟨gb564, 1, none⟩ = some (.slice A0_1 l0_1.length c0_1) := (blk_cell BK564.out 1).trans rfl; have hcz21_2 : w19.cell? ⟨gb564, 2, none⟩ = some (.int .i64 a0_2) := (blk_cell BK564.out 2).trans rfl; have hcz21_3 : w19.cell? ⟨gb564, 3, none⟩ = some (.int .u64 a0_3) := (blk_cell BK564.out 3).trans rfl; have hcz21_4 : w19.cell? ⟨gb564, 4, none⟩ = some (.int .i64 a0_4) := (blk_cell BK564.out 4).trans rfl; have hfz21_0 := blk_frozen BK564.out 0; have hfz21_1 := blk_frozen BK564.out 1; have hfz21_2 := blk_frozen BK564.out 2; have hfz21_3 := blk_frozen BK564.out 3; have hfz21_4 := blk_frozen BK564.out 4; have hcz22_0 : w19.cell? ⟨gb565, 0, none⟩ = some (.slice A1_0 l1_0.length c1_0) := (blk_cell BK565.out 0).trans rfl; have hcz22_1 : w19.cell? ⟨gb565, 1, none⟩ = some (.slice A1_1 l1_1.length c1_1) := (blk_cell BK565.out 1).trans rfl; have hcz22_2 : w19.cell? ⟨gb565, 2, none⟩ = some (.int .i64 a1_2) := (blk_cell BK565.out 2).trans rfl; have hcz22_3 : w19.cell? ⟨gb565, 3, none⟩ = some (.int .u64 a1_3) := (blk_cell BK565.out 3).trans rfl; have hcz22_4 : w19.cell? ⟨gb565, 4, none⟩ = some (.int .i64 a1_4) := (blk_cell BK565.out 4).trans rfl; have hfz22_0 := blk_frozen BK565.out 0; have hfz22_1 := blk_frozen BK565.out 1; have hfz22_2 := blk_frozen BK565.out 2; have hfz22_3 := blk_frozen BK565.out 3; have hfz22_4 := blk_frozen BK565.out 4) | ((with_reducible refine gate_callee (f := 27) rfl ?_); refine goesL_ (some 9) rfl rfl Try.func27 (by kernel_rfl) rfl #[.slice A0_0 l0_0.length c0_0, .slice A1_0 l1_0.length c1_0] rfl za_ ?_; (with_reducible refine (folkmootref15_Same.calls k _ _ l0_0 _ _ l1_0 true _ ?side1 ?side2 ?side3 ?side4 A3.out).mono ?_); (case side1 => exact zc_ HR0_0 HB); (case side2 => exact HC0_0.out); (case side3 => exact zc_ HR1_0 HB); (case side4 => exact HC1_0.out); rintro e w' ⟨rfl, ⟨nd, rfl⟩⟩; refine ⟨_, rfl, ?_⟩) | (go_at_call 30; (with_reducible refine (folkmootref05_Same.calls k _ _ l0_1 _ _ l1_1 false _ ?side1 ?side2 ?side3 ?side4 A5.out).mono ?_); (case side1 => repeat (first | exact (Kd.C_below HR0_1.out zb_) | (with_reducible refine Kd.C_alloc ?_ _) | (with_reducible refine Kd.C_drewN ?_ _) | (with_reducible refine Kd.C_drew ?_))); (case side2 => exact HC0_1.out); (case side3 => repeat (first | exact (Kd.C_below HR1_1.out zb_) | (with_reducible refine Kd.C_alloc ?_ _) | (with_reducible refine Kd.C_drewN ?_ _) | (with_reducible refine Kd.C_drew ?_))); (case side4 => exact HC1_1.out); rintro e w' ⟨rfl, ⟨nd, rfl⟩⟩))
   go_ret
   exact ⟨by first | rfl | (simp [errW_none, errW_some] <;> rfl) | (simp [*, errW_none, errW_some] <;> rfl), by repeat (first | (with_reducible first | exact HB.out | apply below_alloc | apply pw_below_drewN | apply below_drew1 | refine below_set ?_ GE564.out | refine below_set ?_ GE565.out) | exact HB.out)⟩
 ·
  replace c4 := Bool.eq_false_iff.mpr c4
  subst c4
  have H1 : (some false) = some r := by rw [if_neg (show ¬ (false = true) by decide)] at H; exact H
  clear H
  have H := H1
  clear H1
  obtain rfl := Option.some.inj H
  go_enter Try.func48, Try.ntmps48
  go_wp2_with (first | ((with_reducible refine gate_dst (N := 2) rfl ?_); refine box_event ?hg (N := 2) ?hd (cs := #[.slice A0_0 l0_0.length c0_0, .slice A0_1 l0_1.length c0_1, .int .i64 a0_2, .int .u64 a0_3, .int .i64 a0_4]) (t := 53) ?hr ?_; (case hd => rfl); (case hg => rfl); (case hr => first | (go_simp; done) | (go_simp; rfl)); intro gb564 hg w23 hbox hb; have n0_ := Aside0.mk (below_step zb_ hb); have n1_ := Aside0.mk (hbox); have n2_ := Aside0.mk ((by rw [hg]; exact (below_size zb_) : w.heap.size ≤ gb564)); have n3_ := Aside0.mk ((by rw [hg]; exact (below_size zb_) : w.heap.size ≤ gb564)); clear HB; have HB := n0_; have BK564 := n1_; have GW564 := n2_; have GE564 := n3_; clear n0_ n1_ n2_ n3_; clear hb hbox hg) | ((with_reducible refine gate_dst (N := 3) rfl ?_); refine box_event ?hg (N := 3) ?hd (cs := #[.slice A1_0 l1_0.length c1_0, .slice A1_1 l1_1.length c1_1, .int .i64 a1_2, .int .u64 a1_3, .int .i64 a1_4]) (t := 53) ?hr ?_; (case hd => rfl); (case hg => rfl); (case hr => first | (go_simp; done) | (go_simp; rfl)); intro gb565 hg w24 hbox hb; have n0_ := zk_ BK564 hb; have n1_ := Aside0.mk (below_step zb_ hb); have n2_ := Aside0.mk (hbox); have n3_ := Aside0.mk ((by rw [hg]; exact (below_size zb_) : w.heap.size ≤ gb565)); have n4_ := Aside0.mk ((by rw [hg]; exact (below_size zb_) : w.heap.size ≤ gb565)); have n5_ := Aside0.mk ((by rw [hg]; exact Nat.ne_of_lt (blk_lt (g := gb564) (o := .cells #[.slice A0_0 l0_0.length c0_0, .slice A0_1 l0_1.length c0_1, .int .i64 a0_2, .int .u64 a0_3, .int .i64 a0_4] 53 (0, 0)) (by (with_reducible repeat (first | refine blk_drewN ?_ _ | refine blk_drew ?_ | refine blk_alloc ?_ _)); exact BK564.out)) : gb564 ≠ gb565)); have n6_ := Aside0.mk ((by rw [hg]; exact Nat.ne_of_gt (blk_lt (g := gb564) (o := .cells #[.slice A0_0 l0_0.length c0_0, .slice A0_1 l0_1.length c0_1, .int .i64 a0_2, .int .u64 a0_3, .int .i64 a0_4] 53 (0, 0)) (by (with_reducible repeat (first | refine blk_drewN ?_ _ | refine blk_drew ?_ | refine blk_alloc ?_ _)); exact BK564.out)) : gb565 ≠ gb564)); clear BK564; clear HB; have BK564 := n0_; have HB := n1_; have BK565 := n2_; have GW565 := n3_; have GE565 := n4_; have NB564_565 := n5_; have NB565_564 := n6_; clear n0_ n1_ n2_ n3_ n4_ n5_ n6_; clear hb hbox hg; have hnb25 := NB564_565.out; have hnc25 := NB565_564.out; have hcz26_0 : w24.cell? ⟨gb564, 0, none⟩ = some (.slice A0_0 l0_0.length c0_0) := (blk_cell BK564.out 0).trans rfl; have hcz26_1 : w24.cell? ⟨gb564, 1, none⟩ = some (.slice A0_1 l0_1.length c0_1) := (blk_cell BK564.out 1).trans rfl; have hcz26_2 : w24.cell? ⟨gb564, 2, none⟩ = some (.int .i64 a0_2) := (blk_cell BK564.out 2).trans rfl; have hcz26_3 : w24.cell? ⟨gb564, 3, none⟩ = some (.int .u64 a0_3) := (blk_cell BK564.out 3).trans rfl; have hcz26_4 : w24.cell? ⟨gb564, 4, none⟩ = some (.int .i64 a0_4) := (blk_cell BK564.out 4).trans rfl; have hfz26_0 := blk_frozen BK564.out 0; have hfz26_1 := blk_frozen BK564.out 1; have hfz26_2 := blk_frozen BK564.out 2; have hfz26_3 := blk_frozen BK564.out 3; have hfz26_4 := blk_frozen BK564.out 4; have hcz27_0 : w24.cell? ⟨gb565, 0, none⟩ = some (.slice A1_0 l1_0.length c1_0) := (blk_cell BK565.out 0).trans rfl; have hcz27_1 : w24.cell? ⟨gb565, 1, none⟩ = some (.slice A1_1 l1_1.length c1_1) := (blk_cell BK565.out 1).trans rfl; have hcz27_2 : w24.cell? ⟨gb565, 2, none⟩ = some (.int .i64 a1_2) := (blk_cell BK565.out 2).trans rfl; have hcz27_3 : w24.cell? ⟨gb565, 3, none⟩ = some (.int .u64 a1_3) := (blk_cell BK565.out 3).trans rfl; have hcz27_4 : w24.cell? ⟨gb565, 4, none⟩ = some (.int .i64 a1_4) := (blk_cell BK565.out 4).trans rfl; have hfz27_0 := blk_frozen BK565.out 0; have hfz27_1 := blk_frozen BK565.out 1; have hfz27_2 := blk_frozen BK565.out 2; have hfz27_3 := blk_frozen BK565.out 3; have hfz27_4 := blk_frozen BK565.out 4) | ((with_reducible refine gate_callee (f := 27) rfl ?_); refine goesL_ (some 9) rfl rfl Try.func27 (by kernel_rfl) rfl #[.slice A0_0 l0_0.length c0_0, .slice A1_0 l1_0.length c1_0] rfl za_ ?_; (with_reducible refine (folkmootref15_Same.calls k _ _ l0_0 _ _ l1_0 false _ ?side1 ?side2 ?side3 ?side4 A3.out).mono ?_); (case side1 => exact zc_ HR0_0 HB); (case side2 => exact HC0_0.out); (case side3 => exact zc_ HR1_0 HB); (case side4 => exact HC1_0.out); rintro e w' ⟨rfl, ⟨nd, rfl⟩⟩; refine ⟨_, rfl, ?_⟩))
  go_ret
  exact ⟨by first | rfl | (simp [errW_none, errW_some] <;> rfl) | (simp [*, errW_none, errW_some] <;> rfl), by repeat (first | (with_reducible first | exact HB.out | apply below_alloc | apply pw_below_drewN | apply below_drew1 | refine below_set ?_ GE564.out | refine below_set ?_ GE565.out) | exact HB.out)⟩
end Go.Proofs.Ytioooiflpabngaa.PAll
end
section
namespace Go.Proofs.Ytioooiflpabngaa.PAll
open Go.RowKit Go.Proofs.YtioooiflpabngaaW.PrintWords
set_option linter.unusedVariables false
set_option linter.unusedSimpArgs false
theorem ne_spell (a b : S27) : ((!(a.f0.f0 == b.f0.f0) || (!(a.f0.f1 == b.f0.f1))) || (!(a.f1 == b.f1) || (!(a.f2 == b.f2)))) = !eqL a b := by
  unfold eqL
  simp only [Bool.not_and]
theorem rightB_byt {b : List Int} (h : rightB b) : Byt b := fun n hn => by
  have h3 := h.2 n hn
  simp only [Lit.wf, Bool.and_eq_true, decide_eq_true_eq] at h3
  have e1 : IntKind.u8.min = 0 := by decide
  have e2 : IntKind.u8.max = 255 := by decide
  omega
theorem same_any (a b : List S32) (hl : a.length = b.length) (hm : a.length < 9223372036854775807) (ha : ∀ e ∈ a, Byt e.f1) (hb : ∀ e ∈ b, Byt e.f1) : ∀ (d i : Nat), d = a.length - i → i ≤ a.length → ∃ r, Ev (fun k => folkmootref15_Same.l0 k a b (i : Int)) r ∧ (r = true ↔ a.drop i = b.drop i) := by
  intro d
  induction d with
  | zero =>
    intro i hd hi
    have : i = a.length := by omega
    subst this
    refine ⟨true, Ev.step (fun k => by rw [folkmootref15_Same.l0, if_neg (by omega)]) (Ev.const fun _ => rfl), ?_⟩
    rw [List.drop_length, hl, List.drop_length]
    simp
  | succ d ih =>
    intro i hd hi
    have h1 : i < a.length := by omega
    have h2 : i < b.length := by omega
    obtain ⟨r, hr, hc⟩ := ih (i + 1) (by omega) (by omega)
    have s1 := str_inj (ha _ (List.getElem_mem h1)) (hb _ (List.getElem_mem h2))
    have start : ∀ q, Ev (fun k => if (!eqL a[i].f0 b[i].f0) = true then some false else (if (strOfNums a[i].f1).toList = (strOfNums b[i].f1).toList then folkmootref15_Same.l0 k a b ((i + 1 : Nat) : Int) else some false)) q → Ev (fun k => folkmootref15_Same.l0 k a b (i : Int)) q := fun q hq => by
      refine Ev.step (fun k => ?_) hq
      rw [folkmootref15_Same.l0, if_pos (by omega), if_pos (by omega), if_pos (by omega), rdE_nat h1, rdE_nat h2, ne_spell, wrap_nat (by omega)]
    rw [List.drop_eq_getElem_cons h1, List.drop_eq_getElem_cons h2]
    cases hq : eqL a[i].f0 b[i].f0 with
    | false =>
      rw [hq] at start
      refine ⟨false, start _ (Ev.const fun _ => by simp), ?_⟩
      simp only [Bool.false_eq_true, false_iff, List.cons.injEq, not_and]
      intro e
      rw [e, eqL_iff.2 rfl] at hq
      cases hq
    | true =>
      rw [hq] at start
      by_cases hs : (strOfNums a[i].f1).toList = (strOfNums b[i].f1).toList
      · refine ⟨r, start _ ?_, ?_⟩
        · simp only [Bool.not_true, Bool.false_eq_true, if_false, hs, if_true]
          exact hr
        · rw [hc, List.cons.injEq]
          have e1 := eqL_iff.1 hq
          have e2 := s1.1 hs
          have e3 : a[i] = b[i] := by
            generalize a[i] = u at e1 e2
            generalize b[i] = v at e1 e2
            cases u; cases v
            simp only at e1 e2
            rw [e1, e2]
          exact ⟨fun h => ⟨e3, h⟩, fun h => h.2⟩
      · refine ⟨false, start _ (Ev.const fun _ => by simp [hs]), ?_⟩
        simp only [Bool.false_eq_true, false_iff, List.cons.injEq, not_and]
        intro e
        rw [e] at hs
        exact absurd rfl hs
theorem sameE_any (a b : List S32) (hm : a.length < 9223372036854775807) (ha : ∀ e ∈ a, Byt e.f1) (hb : ∀ e ∈ b, Byt e.f1) : ∃ r, Ev (fun k => folkmootref15_Same.f k a b) r ∧ (r = true ↔ a = b) := by
  unfold folkmootref15_Same.f
  by_cases hl : a.length = b.length
  · obtain ⟨r, hr, hc⟩ := same_any a b hl hm ha hb a.length 0 rfl (Nat.zero_le _)
    refine ⟨r, ?_, by simpa using hc⟩
    have c1 : (a.length : Int) = (b.length : Int) := by omega
    simp only [c1, if_true]
    exact hr
  · refine ⟨false, ?_, ?_⟩
    · have c1 : ¬ (a.length : Int) = (b.length : Int) := by omega
      simp only [c1, if_false]
      exact Ev.const fun _ => rfl
    · simp only [Bool.false_eq_true, false_iff]
      intro e
      rw [e] at hl
      exact hl rfl
theorem sameLs_any (a b : List S27) (hl : a.length = b.length) (hm : a.length < 9223372036854775807) : ∀ (d i : Nat), d = a.length - i → i ≤ a.length → ∃ r, Ev (fun k => folkmootref05_Same.l0 k a b (i : Int)) r ∧ (r = true ↔ a.drop i = b.drop i) := by
  intro d
  induction d with
  | zero =>
    intro i hd hi
    have : i = a.length := by omega
    subst this
    refine ⟨true, Ev.step (fun k => by rw [folkmootref05_Same.l0, if_neg (by omega)]) (Ev.const fun _ => rfl), ?_⟩
    rw [List.drop_length, hl, List.drop_length]
    simp
  | succ d ih =>
    intro i hd hi
    have h1 : i < a.length := by omega
    have h2 : i < b.length := by omega
    obtain ⟨r, hr, hc⟩ := ih (i + 1) (by omega) (by omega)
    have start : ∀ q, Ev (fun k => if (!eqL a[i] b[i]) = true then some false else folkmootref05_Same.l0 k a b ((i + 1 : Nat) : Int)) q → Ev (fun k => folkmootref05_Same.l0 k a b (i : Int)) q := fun q hq => by
      refine Ev.step (fun k => ?_) hq
      rw [folkmootref05_Same.l0, if_pos (by omega), if_pos (by omega), if_pos (by omega), rdL_nat h1, rdL_nat h2, ne_spell, wrap_nat (by omega)]
    rw [List.drop_eq_getElem_cons h1, List.drop_eq_getElem_cons h2]
    cases hq : eqL a[i] b[i] with
    | false =>
      rw [hq] at start
      refine ⟨false, start _ (Ev.const fun _ => by simp), ?_⟩
      simp only [Bool.false_eq_true, false_iff, List.cons.injEq, not_and]
      intro e
      rw [e, eqL_iff.2 rfl] at hq
      cases hq
    | true =>
      rw [hq] at start
      refine ⟨r, start _ (by simp only [Bool.not_true, Bool.false_eq_true, if_false]; exact hr), ?_⟩
      rw [hc, List.cons.injEq]
      exact ⟨fun h => ⟨eqL_iff.1 hq, h⟩, fun h => h.2⟩
theorem sameL_any (a b : List S27) (hm : a.length < 9223372036854775807) : ∃ r, Ev (fun k => folkmootref05_Same.f k a b) r ∧ (r = true ↔ a = b) := by
  unfold folkmootref05_Same.f
  by_cases hl : a.length = b.length
  · obtain ⟨r, hr, hc⟩ := sameLs_any a b hl hm a.length 0 rfl (Nat.zero_le _)
    refine ⟨r, ?_, by simpa using hc⟩
    have c1 : (a.length : Int) = (b.length : Int) := by omega
    simp only [c1, if_true]
    exact hr
  · refine ⟨false, ?_, ?_⟩
    · have c1 : ¬ (a.length : Int) = (b.length : Int) := by omega
      simp only [c1, if_false]
      exact Ev.const fun _ => rfl
    · simp only [Bool.false_eq_true, false_iff]
      intro e
      rw [e] at hl
      exact hl rfl
theorem alike_any (s t : S53) (h0 : s.f0.length < 9223372036854775807) (h1 : s.f1.length < 9223372036854775807) (hs : ∀ e ∈ s.f0, Byt e.f1) (ht : ∀ e ∈ t.f0, Byt e.f1) : ∃ r, Ev (fun k => folkmootref15_Alike.f k s.f0 s.f1 s.f2 s.f3.f0 s.f3.f1 t.f0 t.f1 t.f2 t.f3.f0 t.f3.f1) r ∧ (r = true ↔ s = t) := by
  obtain ⟨r1, e1, c1⟩ := sameE_any s.f0 t.f0 h0 hs ht
  obtain ⟨r2, e2, c2⟩ := sameL_any s.f1 t.f1 h1
  have fin : s = t ↔ (s.f0 = t.f0 ∧ s.f1 = t.f1 ∧ s.f2 = t.f2 ∧ s.f3.f0 = t.f3.f0 ∧ s.f3.f1 = t.f3.f1) := by
    constructor
    · rintro rfl
      exact ⟨rfl, rfl, rfl, rfl, rfl⟩
    · rintro ⟨a, b, c, d, e⟩
      cases s with | mk s0 s1 s2 s3 => cases t with | mk t0 t1 t2 t3 => cases s3; cases t3; simp_all
  unfold folkmootref15_Alike.f
  cases r1 with
  | false =>
    refine ⟨false, Ev.bind e1 (Ev.const fun _ => by simp), ?_⟩
    rw [fin]
    simp only [Bool.false_eq_true, false_iff] at c1 ⊢
    exact fun h => c1 h.1
  | true =>
    cases r2 with
    | false =>
      refine ⟨false, Ev.bind e1 ?_, ?_⟩
      · simp only [if_true]
        exact Ev.bind e2 (Ev.const fun _ => by simp)
      · rw [fin]
        simp only [Bool.false_eq_true, false_iff] at c2 ⊢
        exact fun h => c2 h.2.1
    | true =>
      by_cases hn : s.f2 = t.f2
      · refine ⟨s.f3.f0 == t.f3.f0 && (s.f3.f1 == t.f3.f1), Ev.bind e1 ?_, ?_⟩
        · simp only [if_true]
          refine Ev.bind e2 ?_
          simp only [if_true, hn]
          exact Ev.const fun _ => rfl
        · rw [fin]
          simp only [Bool.and_eq_true, beq_iff_eq]
          exact ⟨fun h => ⟨c1.1 rfl, c2.1 rfl, hn, h⟩, fun h => h.2.2.2⟩
      · refine ⟨false, Ev.bind e1 ?_, ?_⟩
        · simp only [if_true]
          refine Ev.bind e2 ?_
          simp only [if_true, hn, if_false]
          exact Ev.const fun _ => rfl
        · rw [fin]
          simp only [Bool.false_eq_true, false_iff]
          exact fun h => hn h.2.2.1
end Go.Proofs.Ytioooiflpabngaa.PAll
end
section
namespace Go.Proofs.Ytioooiflpabngaa.PAll
open Go.RowKit Go.Proofs.YtioooiflpabngaaW.PrintWords Go.Proofs.YtioooiflpabngaaW.PrintLast Go.Proofs.YtioooiflpabngaaW.PrintMore
set_option linter.unusedVariables false
set_option linter.unusedSimpArgs false
structure RefPre (w wx : World) : Prop where
  bel : Below w.heap.size w wx
  b0 : wx.heap[w.heap.size]? = some (.cells zE 32 (0, 0))
  b1 : wx.heap[w.heap.size + 1]? = some (.cells zS 53 (0, 0))
  b2 : wx.heap[w.heap.size + 2]? = some (.cells zE 32 (0, 0))
theorem RefPre.below {w wx w2 : World} (h : RefPre w wx) (hb : Below wx.heap.size wx w2) : RefPre w w2 :=
  ⟨h.bel.trans (hb.mono (by have := h.bel.size; omega)), blk_below h.b0 hb, blk_below h.b1 hb, blk_below h.b2 hb⟩
end Go.Proofs.Ytioooiflpabngaa.PAll
end
section
namespace Go.Proofs.Ytioooiflpabngaa.PAll
open Go.RowKit Go.Proofs.YtioooiflpabngaaW.PrintWords Go.Proofs.YtioooiflpabngaaW.PrintLast Go.Proofs.YtioooiflpabngaaW.PrintMore
set_option linter.unusedVariables false
set_option linter.unusedSimpArgs false
def folkmootlaw15_awake.f : Option Bool := some true
theorem encodes_one : content_EncodeOne.f 20 1 0 1 0 [97] = some ([1, 1, 0, 1, 0, 1, 97], 0) := by kernel_rfl
theorem C_const (W : World) : Kd.C (Kd.int .u8) (W.alloc (.cells #[.int .u8 97] 5 (1, 2))) (some ⟨W.heap.size, 0, none⟩) [97].length [(97 : Int)] := by
  refine ⟨rfl, by decide, fun _ => ⟨_, rfl, fun j p hj => ?_⟩⟩
  match j, hj with
  | 0, hj =>
    simp at hj
    subst hj
    refine ⟨[.int .u8 97], rfl, rfl, fun i u hi => ?_⟩
    match i, hi with
    | 0, hi =>
      simp at hi
      subst hi
      show World.cell? _ ⟨W.heap.size, 0, none⟩ = _
      simp only [World.cell?]
      rw [heap_alloc_new]
      rfl
    | i + 1, hi => simp at hi
  | j + 1, hj => simp at hj
set_option maxHeartbeats 8000000 in
set_option maxRecDepth 100000 in
theorem folkmootlaw15_awake.calls (r : Bool) (w : World) (h : folkmootlaw15_awake.f = some r) :
    Calls Try.prog 22 #[] w fun e w' => e = .returned (.bool r) ∧ Below w.heap.size w w' := by
  have hu25 := Try.underlying25
  have hu27 := Try.underlying27
  have hu32 := Try.underlying32
  injection h with h
  subst h
  have kc := fun (w : World) (C : Array Value) (n c : Nat) => Lib.run_convert_bytes_const (P := Try.prog) w 30 5 C n c Try.underlying30 Try.underlying5
  have hs : ((strOfNums [1, 1, 0, 1, 0, 1, 97]).toList == ([1, 1, 0, 1, 0, 1, 97] : List UInt8)) = true := by kernel_rfl
  go_enter Try.func22, Try.ntmps22
  go_wp2_with (go_at_call 46; refine (content_EncodeOne.calls 20 1 0 1 0 _ 1 [97] _ _ _ (C_const w) (by decide) encodes_one).mono ?_; rintro e w' ⟨v, rfl, ho, hb⟩; have hcv := own_string (P := Try.prog) Try.underlying30 Try.underlying5 Try.underlying9 (Kd.own_of_R ho))
  go_ret
  exact ⟨rfl, below_step (below_alloc (Below.refl _ _) _) hb⟩
end Go.Proofs.Ytioooiflpabngaa.PAll
end
section
namespace Go.Proofs.Ytioooiflpabngaa.PAll
open Go.RowKit Go.Proofs.YtioooiflpabngaaW.PrintWords Go.Proofs.YtioooiflpabngaaW.PrintLast Go.Proofs.YtioooiflpabngaaW.PrintMore
set_option linter.unusedVariables false
set_option linter.unusedSimpArgs false
theorem alike_self (s : S53) (hb : ∀ e ∈ s.f0, Byt e.f1) (h0 : s.f0.length ≤ 1000000) (h1 : s.f1.length ≤ 1000000) : Ev (fun k => folkmootref15_Alike.f k s.f0 s.f1 s.f2 s.f3.f0 s.f3.f1 s.f0 s.f1 s.f2 s.f3.f0 s.f3.f1) true := by
  obtain ⟨r, hr, hi⟩ := alike_any s s (by omega) (by omega) hb hb
  rw [hi.2 rfl] at hr
  exact hr
end Go.Proofs.Ytioooiflpabngaa.PAll
end
section
namespace Go.Proofs.Ytioooiflpabngaa.PAll
open Go.RowKit Go.Proofs.YtioooiflpabngaaW.PrintWords Go.Proofs.YtioooiflpabngaaW.PrintLast Go.Proofs.YtioooiflpabngaaW.PrintMore
set_option linter.unusedVariables false
set_option linter.unusedSimpArgs false
theorem uintB_pos (n : Nat) : 1 ≤ (uintB n).length := by
  rw [uintB]
  split <;> simp
theorem flatE_long : ∀ l : List S32, l.length ≤ (l.flatMap entB).length
  | [] => Nat.le_refl _
  | x :: l => by
    have h1 := flatE_long l
    have h2 := uintB_pos x.f1.length
    rw [List.flatMap_cons, List.length_append, List.length_cons]
    have h3 : (uintB x.f1.length).length ≤ (entB x).length := by unfold entB; simp only [List.length_append]; omega
    omega
theorem flatL_long : ∀ l : List S27, l.length ≤ (l.flatMap labB).length
  | [] => Nat.le_refl _
  | x :: l => by
    have h1 := flatL_long l
    have h2 := uintB_pos x.f1.toNat
    rw [List.flatMap_cons, List.length_append, List.length_cons]
    have h3 : (uintB x.f1.toNat).length ≤ (labB x).length := by unfold labB; simp only [List.length_append]; omega
    omega
theorem flatE_short : ∀ l : List S32, (∀ x ∈ l, EOk x) → (l.flatMap entB).length ≤ 96 * l.length
  | [], _ => Nat.le_refl _
  | x :: l, h => by
    have h1 := flatE_short l fun y hy => h y (List.mem_cons_of_mem _ hy)
    have h2 := entB_length (h x List.mem_cons_self).1 (h x List.mem_cons_self).2.1
    rw [List.flatMap_cons, List.length_append, List.length_cons]
    omega
theorem flatL_short : ∀ l : List S27, (∀ x ∈ l, FormL x) → (l.flatMap labB).length ≤ 22 * l.length
  | [], _ => Nat.le_refl _
  | x :: l, h => by
    have h1 := flatL_short l fun y hy => h y (List.mem_cons_of_mem _ hy)
    have h2 := labB_length (h x List.mem_cons_self)
    rw [List.flatMap_cons, List.length_append, List.length_cons]
    omega
theorem all_pure (s : S53) (h : rightS s) (hl : s.f0.length + s.f1.length ≤ 200) : ∃ f : Bool, Ev (fun k => content_Right.f k s.f0 s.f1 s.f2 s.f3.f0 s.f3.f1) f ∧ Ev (fun k => folkmootref15_Right.f k s.f0 s.f1 s.f2 s.f3.f0 s.f3.f1) f ∧ (∀ e ∈ s.f0, Byt e.f1) ∧
    (f = false → Ev (fun k => content_EncodeAll.f k s.f0 s.f1 s.f2 s.f3.f0 s.f3.f1) ([], 3)) ∧
    (f = true → Ev (fun k => content_EncodeAll.f k s.f0 s.f1 s.f2 s.f3.f0 s.f3.f1) (2 :: bodyB s, 0) ∧ Ev (fun k => folkmootref15_All.f k s.f0 s.f1 s.f2 s.f3.f0 s.f3.f1) (2 :: bodyB s) ∧ Ev (fun k => content_Decode.g k (2 :: bodyB s)) (2, noE, s, 0) ∧ (2 :: bodyB s).length ≤ 100000) := by
  have hb : ∀ e ∈ s.f0, Byt e.f1 := fun e he => rightB_byt (h.1.2 e he).2
  obtain ⟨f, h1, h2, hR⟩ := rights_alike s h (by omega) (by omega)
  refine ⟨f, h1, h2, hb, fun hf => ?_, fun hf => ?_⟩
  · subst hf
    unfold content_EncodeAll.f
    exact Ev.bind h1 (Ev.const fun _ => rfl)
  · subst hf
    have R := hR rfl
    have ok : SOk s := ⟨fun x hx => ⟨(R.con x hx).1, (R.con x hx).2, hb x hx⟩, R.ord, by have := R.next; omega, R.hn, R.high⟩
    have c2 := R.next.2
    have k1 := flatE_long s.f0
    have k2 := flatL_long s.f1
    have k3 := flatE_short s.f0 ok.con
    have k4 := flatL_short s.f1 ok.ord
    have k5 := uintB_length s.f0.length (by omega)
    have k6 := uintB_length s.f1.length (by omega)
    have k7 := uintB_length s.f2.toNat (by omega)
    have k8 := viewB_length R.hn
    have hlen : (bodyB s).length = (uintB s.f0.length).length + ((s.f0.flatMap entB).length + ((uintB s.f1.length).length + ((s.f1.flatMap labB).length + ((uintB s.f2.toNat).length + (viewB s.f3).length)))) := by
      unfold bodyB restB
      simp only [List.length_append]
    refine ⟨all_ev s R (by omega) (by omega), refAll_ev s ok (by omega) (by omega) (by omega), ?_, by simp only [List.length_cons]; omega⟩
    have hs := sRd_of (N := ((bodyB s).length : Int) + 1) ok (by omega) (by omega) (by omega) (by omega)
    refine Ev.congr (b := fun k => (content_Right.f k s.f0 s.f1 s.f2 s.f3.f0 s.f3.f1).bind fun r => if r = true then some ((2 : Int), noE, s, (0 : Int)) else some (0, noE, noS, 3)) (fun k => ?_) (Ev.bind h1 (Ev.const fun _ => rfl))
    simp only [content_Decode.g, if_neg (show ¬ (2 : Int) = 1 by decide), if_true, hs]
set_option maxHeartbeats 8000000 in
set_option maxRecDepth 100000 in
theorem lawAll.calls (A : Option Addr) (c : Nat) (B : Option Addr) (d : Nat) (x : S53) (w : World) (hr0 : Kd.C k32 w A x.f0.length x.f0) (hc0 : x.f0.length ≤ c) (hr1 : Kd.C k27 w B x.f1.length x.f1) (hc1 : x.f1.length ≤ d) (hx : rightS x) :
    Calls Try.prog 15 #[.agg #[.slice A x.f0.length c, .slice B x.f1.length d, .int .i64 x.f2, .int .u64 x.f3.f0, .int .i64 x.f3.f1]] w fun e w' => e = .returned (.bool true) ∧ Below w.heap.size w w' := by
  have hu32 := Try.underlying32
  have hu53 := Try.underlying53
  have hu27 := Try.underlying27
  have hu25 := Try.underlying25
  have HP := Aside0.mk (all_pure x hx)
  obtain ⟨con, ord, nx, ⟨hn, hp⟩⟩ := x
  simp only at HP hr0 hc0 hr1 hc1 ⊢
  have hm0 : con.length ≤ 9223372036854775807 := hr0.2.1
  have hm1 : ord.length ≤ 9223372036854775807 := hr1.2.1
  have hz0 : con.length * 56 ≤ 0x7ffffffff000 := hx.1.1
  have hz1 : ord.length * 32 ≤ 0x7ffffffff000 := hx.2.1.1
  have hz2 : (con.length : Int) < 4398046511104 := by omega
  have hz3 : (ord.length : Int) < 4398046511104 := by omega
  have HR0 := Aside0.mk hr0
  have HC0 := Aside0.mk hc0
  have HR1 := Aside0.mk hr1
  have HC1 := Aside0.mk hc1
  have HAW := Aside0.mk (fun W => folkmootlaw15_awake.calls true W rfl)
  have hmo : Try.prog.follows .mixedOrders = true := by kernel_rfl
  clear hr0 hc0 hr1 hc1 hx hm0 hm1 hz0 hz1
  have HX := Aside0.mk (blk_new w (.cells #[.slice A con.length c, .slice B ord.length d, .int .i64 nx, .int .u64 hn, .int .i64 hp] 53))
  have HB := Aside0.mk (show Below w.heap.size w (w.alloc (.cells #[.slice A con.length c, .slice B ord.length d, .int .i64 nx, .int .u64 hn, .int .i64 hp] 53)) from Below.alloc (Below.refl _ _) (Nat.le_refl _) _)
  by_cases hbig : con.length + ord.length > 200
  · go_enter Try.func15, Try.ntmps15
    go_upto_region 1 with fail
    generalize w.alloc (.cells #[.slice A con.length c, .slice B ord.length d, .int .i64 nx, .int .u64 hn, .int .i64 hp] 53) = w1 at HX HB ⊢
    have hbigI : (200 : Int) < (con.length : Int) + (ord.length : Int) := by omega
    go_wp2_with (first
      | (go_at_call 22; refine (HAW.out w1).mono ?_; rintro e w2 ⟨rfl, hb⟩; obtain ⟨hy0, hy1, hy2, hy3, hy4, -, -, -, -, -, hyl⟩ := blk5 (blk_below HX.out hb); have HB2 := Aside0.mk hb; clear hb)
      | (go_at_call 22; refine (HAW.out w2).mono ?_; rintro e w3 ⟨rfl, hb⟩; have HB3 := Aside0.mk hb; clear hb))
    go_ret
    exact ⟨rfl, HB.out.trans ((HB2.out.trans (HB3.out.mono HB2.out.size)).mono HB.out.size)⟩
  · have HSM := Aside0.mk (show decide ((200 : Int) < (con.length : Int) + (ord.length : Int)) = false from decide_eq_false (by omega))
    have hle : con.length + ord.length ≤ 200 := by omega
    obtain ⟨f, p1, p2, hb, q1, q2⟩ := HP.out hle
    have HLE := Aside0.mk hle
    clear hle
    obtain ⟨k1, p1⟩ := p1.get
    obtain ⟨k2, p2⟩ := p2.get
    have HF1 := Aside0.mk (fun W (hW : Below w.heap.size w W) => content_Right.calls k1 A c con B d ord nx hn hp f W (Kd.C_below HR0.out hW) HC0.out (Kd.C_below HR1.out hW) HC1.out p1)
    have HF2 := Aside0.mk (fun W (hW : Below w.heap.size w W) => folkmootref15_Right.calls k2 A c con B d ord nx hn hp f W (Kd.C_below HR0.out hW) HC0.out (Kd.C_below HR1.out hW) HC1.out p2)
    have HQ1 := Aside0.mk q1
    have HQ2 := Aside0.mk q2
    have HBY := Aside0.mk hb
    clear p1 p2 q1 q2 hb HP
    go_enter Try.func15, Try.ntmps15
    go_upto_region 1 with fail
    generalize w.alloc (.cells #[.slice A con.length c, .slice B ord.length d, .int .i64 nx, .int .u64 hn, .int .i64 hp] 53) = w1 at HX HB ⊢
    go_upto_if 20 with (go_at_call 22; refine (HAW.out w1).mono ?_; rintro e w2 ⟨rfl, hb⟩; obtain ⟨hy0, hy1, hy2, hy3, hy4, -, -, -, -, -, hyl⟩ := blk5 (blk_below HX.out hb); have HX2 := Aside0.mk (blk_below HX.out hb); have HB2 := Aside0.mk (HB.out.trans (hb.mono HB.out.size)); clear hb)
    rw [HSM.out]
    go_upto_region 3 with fail
    clear HX HB HSM
    have HS := Aside0.mk (fun (W' : World) (hW : Below w2.heap.size w2 W') => (show W'.cell? ⟨w.heap.size, 0, none⟩ = some (.slice A con.length c) ∧ W'.cell? ⟨w.heap.size, 1, none⟩ = some (.slice B ord.length d) ∧ W'.cell? ⟨w.heap.size, 2, none⟩ = some (.int .i64 nx) ∧ W'.cell? ⟨w.heap.size, 3, none⟩ = some (.int .u64 hn) ∧ W'.cell? ⟨w.heap.size, 4, none⟩ = some (.int .i64 hp) from by
      obtain ⟨h0, h1, h2, h3, h4, -⟩ := blk5 (blk_below HX2.out hW)
      exact ⟨h0, h1, h2, h3, h4⟩))
    go_cut [26] (fun s26 wy => s26 = .bool false ∧ Aside0 (Below w2.heap.size w2 wy))
    case first =>
      first
        | (go_region_held3 (fun W' => W'.cell? ⟨w.heap.size, 0, none⟩ = some (.slice A con.length c) ∧ W'.cell? ⟨w.heap.size, 1, none⟩ = some (.slice B ord.length d) ∧ W'.cell? ⟨w.heap.size, 2, none⟩ = some (.int .i64 nx) ∧ W'.cell? ⟨w.heap.size, 3, none⟩ = some (.int .u64 hn) ∧ W'.cell? ⟨w.heap.size, 4, none⟩ = some (.int .i64 hp))
            ((refine HS.out _ ?_; with_reducible repeat (first | exact HBY3.out | exact HBY2.out | exact Below.refl _ _ | refine Below.drew ?_ | apply pw_below_drewN)))
            (first
              | (go_at_call 53; refine (HF1.out _ (HB2.out.trans ((show Below w2.heap.size w2 _ from by with_reducible repeat (first | exact HBY3.out | exact HBY2.out | exact Below.refl _ _ | refine Below.drew ?_ | apply pw_below_drewN)).mono HB2.out.size))).mono ?_; rintro e w3 ⟨rfl, hb⟩; have HBY3 := Aside0.mk (show Below w2.heap.size w2 w3 from by first | exact HBY3.out.trans (hb.mono HBY3.out.size) | exact Below.trans (by with_reducible repeat (first | exact Below.refl _ _ | refine Below.drew ?_ | apply pw_below_drewN)) (hb.mono (by simp))); clear hb)
              | (go_at_call 45; refine (HF2.out _ (HB2.out.trans ((show Below w2.heap.size w2 _ from by with_reducible repeat (first | exact HBY3.out | exact HBY2.out | exact Below.refl _ _ | refine Below.drew ?_ | apply pw_below_drewN)).mono HB2.out.size))).mono ?_; rintro e w3 ⟨rfl, hb⟩; have HBY3 := Aside0.mk (show Below w2.heap.size w2 w3 from by first | exact HBY3.out.trans (hb.mono HBY3.out.size) | exact Below.trans (by with_reducible repeat (first | exact Below.refl _ _ | refine Below.drew ?_ | apply pw_below_drewN)) (hb.mono (by simp))); clear hb)))
        | fail
      all_goals go_wp2_with fail
      all_goals go_meet
      all_goals exact ⟨by simp, HBY3⟩
    case rest =>
      obtain ⟨rfl, HW⟩ := hcut
      clear hy0 hy1 hy2 hy3 hy4 hyl
      obtain ⟨hx0, hx1, hx2, hx3, hx4, -, -, -, -, -, hxl⟩ := blk5 (blk_below HX2.out HW.out)
      have HBW := Aside0.mk (show Below w.heap.size w wc from HB2.out.trans (HW.out.mono HB2.out.size))
      have HX3 := Aside0.mk (blk_below HX2.out HW.out)
      clear HW HS HX2 HB2
      cases f
      · obtain ⟨k3, hk3⟩ := (HQ1.out rfl).get
        have HEN := Aside0.mk (fun W (hW : Below w.heap.size w W) => content_EncodeAll.calls k3 A c con B d ord nx hn hp [] 3 W (Kd.C_below HR0.out hW) HC0.out (Kd.C_below HR1.out hW) HC1.out hk3)
        clear hk3 HQ1 HQ2
        go_wp2_with (first
          | (go_at_call 47; (with_reducible refine (HEN.out _ HBW.out).mono ?_); rintro e w3 ⟨v, rfl, ho, hb⟩; obtain ⟨Ao, co, rfl⟩ := Kd.R_slice ho; have HB3 := Aside0.mk hb; obtain ⟨hy0, hy1, hy2, hy3, hy4, -, -, -, -, -, hyl⟩ := blk5 (blk_below HX3.out hb); clear ho hb)
          | (go_at_call 45; (with_reducible refine (HF2.out w3 (HBW.out.trans (HB3.out.mono HBW.out.size))).mono ?_); rintro e w4 ⟨rfl, hb⟩; have HB4 := Aside0.mk hb; clear hb))
        go_ret
        exact ⟨rfl, HBW.out.trans ((HB3.out.trans (HB4.out.mono HB3.out.size)).mono HBW.out.size)⟩
      · obtain ⟨hq1, hq2, hq3, hq4⟩ := HQ2.out rfl
        obtain ⟨k3, hk3⟩ := hq1.get
        obtain ⟨k4, hk4⟩ := hq2.get
        obtain ⟨k5, hk5⟩ := hq3.get
        obtain ⟨k6, hk6⟩ := (alike_self (⟨con, ord, nx, ⟨hn, hp⟩⟩ : S53) HBY.out (by have := HLE.out; simp only; omega) (by have := HLE.out; simp only; omega)).get
        have hk5 : content_Decode.g k5 (2 :: bodyB (⟨con, ord, nx, ⟨hn, hp⟩⟩ : S53)) = some (2, ⟨⟨⟨0, 0⟩, 0, 0⟩, []⟩, ⟨con, ord, nx, ⟨hn, hp⟩⟩, 0) := hk5
        simp only at hk6
        have HQ4 := Aside0.mk hq4
        generalize (2 :: bodyB (⟨con, ord, nx, ⟨hn, hp⟩⟩ : S53)) = o at hk3 hk4 hk5 HQ4
        have HEN := Aside0.mk (fun W (hW : Below w.heap.size w W) => content_EncodeAll.calls k3 A c con B d ord nx hn hp o 0 W (Kd.C_below HR0.out hW) HC0.out (Kd.C_below HR1.out hW) HC1.out hk3)
        have HON := Aside0.mk (fun W (hW : Below w.heap.size w W) => folkmootref15_All.calls k4 A c con B d ord nx hn hp o W (Kd.C_below HR0.out hW) HC0.out (Kd.C_below HR1.out hW) HC1.out hk4)
        have HDE := Aside0.mk (fun W Ao co (hC : Kd.C (Kd.int .u8) W Ao o.length o) (hc : o.length ≤ co) => content_Decode.calls k5 Ao co o _ W hC hc (by have := HQ4.out; omega) hk5)
        have HAL := Aside0.mk hk6
        clear hk3 hk4 hk5 hk6 hq1 hq2 hq3 hq4 HQ1 HQ2
        go_upto_region 9 with (first
          | (go_at_call 47; (with_reducible refine (HEN.out _ HBW.out).mono ?_); rintro e w2 ⟨v, rfl, ho, hb⟩; obtain ⟨Ao, co, rfl⟩ := Kd.R_slice ho; have HO2 := Aside0.mk ho; have HB2 := Aside0.mk (HBW.out.trans (hb.mono HBW.out.size)); have HB2' := Aside0.mk hb; obtain ⟨hy0, hy1, hy2, hy3, hy4, -, -, -, -, -, hyl⟩ := blk5 (blk_below HX3.out hb); clear ho hb)
          | (go_at_call 45; (with_reducible refine (HF2.out w2 HB2.out).mono ?_); rintro e w3 ⟨rfl, hb⟩; have HB3 := Aside0.mk hb; clear hb)
          | (go_at_call 50; (with_reducible refine (HDE.out w3 Ao co (Kd.R_reads' (Kd.R_below HO2.out HB3.out)).2.2 (Kd.R_reads' (Kd.R_below HO2.out HB3.out)).2.1).mono ?_); rintro e w4 ⟨v5, v6, v7, rfl, h5, h6, h7, hb⟩; simp only at h5 h6 h7; obtain ⟨A5, c5, e5⟩ := Kd.R_slice h5; simp only [List.length_nil] at e5; subst e5; obtain ⟨A6, c6, rfl⟩ := Kd.R_slice h6; obtain ⟨A7, c7, rfl⟩ := Kd.R_slice h7; have H5 := Aside0.mk h5; have H6 := Aside0.mk h6; have H7 := Aside0.mk h7; have HB4 := Aside0.mk hb; clear h5 h6 h7 hb))
        have hs4 : w.heap.size ≤ w4.heap.size := Nat.le_trans HB2.out.size (Nat.le_trans HB3.out.size HB4.out.size)
        have HB5 := Aside0.mk (show Below w3.heap.size w3 ((w4.alloc (.cells #[.int .u64 0, .int .i64 0, .int .u64 0, .int .i64 0, .slice A5 0 c5] 32)).alloc (.cells #[.slice A6 con.length c6, .slice A7 ord.length c7, .int .i64 nx, .int .u64 hn, .int .i64 hp] 53)) from (HB4.out.alloc HB4.out.size _).alloc (by have := HB4.out.size; simp only [World.size_alloc]; omega) _)
        have HY5 := Aside0.mk (blk_alloc (blk_new w4 (.cells #[.int .u64 0, .int .i64 0, .int .u64 0, .int .i64 0, .slice A5 0 c5] 32)) (.cells #[.slice A6 con.length c6, .slice A7 ord.length c7, .int .i64 nx, .int .u64 hn, .int .i64 hp] 53))
        have HZ5 := Aside0.mk (show ((w4.alloc (.cells #[.int .u64 0, .int .i64 0, .int .u64 0, .int .i64 0, .slice A5 0 c5] 32)).alloc (.cells #[.slice A6 con.length c6, .slice A7 ord.length c7, .int .i64 nx, .int .u64 hn, .int .i64 hp] 53)).heap[w4.heap.size + 1]? = some (.cells #[.slice A6 con.length c6, .slice A7 ord.length c7, .int .i64 nx, .int .u64 hn, .int .i64 hp] 53 (0, 0)) from by have h7 := blk_new (w4.alloc (.cells #[.int .u64 0, .int .i64 0, .int .u64 0, .int .i64 0, .slice A5 0 c5] 32)) (.cells #[.slice A6 con.length c6, .slice A7 ord.length c7, .int .i64 nx, .int .u64 hn, .int .i64 hp] 53); rwa [World.size_alloc] at h7)
        have H65 := Aside0.mk (Kd.R_alloc (Kd.R_alloc H6.out (.cells #[.int .u64 0, .int .i64 0, .int .u64 0, .int .i64 0, .slice A5 0 c5] 32)) (.cells #[.slice A6 con.length c6, .slice A7 ord.length c7, .int .i64 nx, .int .u64 hn, .int .i64 hp] 53))
        have H75 := Aside0.mk (Kd.R_alloc (Kd.R_alloc H7.out (.cells #[.int .u64 0, .int .i64 0, .int .u64 0, .int .i64 0, .slice A5 0 c5] 32)) (.cells #[.slice A6 con.length c6, .slice A7 ord.length c7, .int .i64 nx, .int .u64 hn, .int .i64 hp] 53))
        clear H5 H6 H7 HB4 hx0 hx1 hx2 hx3 hx4 hxl hy0 hy1 hy2 hy3 hy4 hyl HDE
        generalize (w4.alloc (.cells #[.int .u64 0, .int .i64 0, .int .u64 0, .int .i64 0, .slice A5 0 c5] 32)).alloc (.cells #[.slice A6 con.length c6, .slice A7 ord.length c7, .int .i64 nx, .int .u64 hn, .int .i64 hp] 53) = w5 at HB5 HY5 HZ5 H65 H75 ⊢
        generalize w4.heap.size = by_ at HY5 HZ5 hs4 ⊢
        have HBW5 := Aside0.mk (show Below w.heap.size w w5 from HB2.out.trans ((HB3.out.trans (HB5.out.mono HB3.out.size)).mono HB2.out.size))
        have HO5 := Aside0.mk (Kd.R_below (Kd.R_below HO2.out HB3.out) HB5.out)
        have HX5 := Aside0.mk (blk_below (blk_below (blk_below HX3.out HB2'.out) HB3.out) HB5.out)
        have HS := Aside0.mk (fun (W' : World) (hW : Below w5.heap.size w5 W') => (show W'.cell? ⟨w.heap.size, 0, none⟩ = some (.slice A con.length c) ∧ W'.cell? ⟨w.heap.size, 1, none⟩ = some (.slice B ord.length d) ∧ W'.cell? ⟨w.heap.size, 2, none⟩ = some (.int .i64 nx) ∧ W'.cell? ⟨w.heap.size, 3, none⟩ = some (.int .u64 hn) ∧ W'.cell? ⟨w.heap.size, 4, none⟩ = some (.int .i64 hp) ∧ W'.cell? ⟨by_, 0, none⟩ = some (.int .u64 0) ∧ W'.cell? ⟨by_, 1, none⟩ = some (.int .i64 0) ∧ W'.cell? ⟨by_, 2, none⟩ = some (.int .u64 0) ∧ W'.cell? ⟨by_, 3, none⟩ = some (.int .i64 0) ∧ W'.cell? ⟨by_, 4, none⟩ = some (.slice A5 0 c5) ∧ W'.cell? ⟨by_ + 1, 0, none⟩ = some (.slice A6 con.length c6) ∧ W'.cell? ⟨by_ + 1, 1, none⟩ = some (.slice A7 ord.length c7) ∧ W'.cell? ⟨by_ + 1, 2, none⟩ = some (.int .i64 nx) ∧ W'.cell? ⟨by_ + 1, 3, none⟩ = some (.int .u64 hn) ∧ W'.cell? ⟨by_ + 1, 4, none⟩ = some (.int .i64 hp) ∧ (convert 30 9 (.slice Ao o.length co)).run Try.prog W' = .ok (.string (strOfNums o)) W' from by
          obtain ⟨g0, g1, g2, g3, g4, -⟩ := blk5 (blk_below HX5.out hW)
          obtain ⟨h0, h1, h2, h3, h4, -⟩ := blk5 (blk_below HY5.out hW)
          obtain ⟨j0, j1, j2, j3, j4, -⟩ := blk5 (blk_below HZ5.out hW)
          exact ⟨g0, g1, g2, g3, g4, h0, h1, h2, h3, h4, j0, j1, j2, j3, j4, Kd.C_string (c := co) Try.underlying30 Try.underlying5 Try.underlying9 (Kd.R_reads' (Kd.R_below HO5.out hW)).2.2⟩))
        have HAL2 := Aside0.mk (fun W (hW : Below w5.heap.size w5 W) => folkmootref15_Alike.calls k6 A6 c6 con A7 c7 ord nx hn hp A c con B d ord nx hn hp true W (Kd.R_reads' (Kd.R_below H65.out hW)).2.2 (Kd.R_reads' (Kd.R_below H65.out hW)).2.1 (Kd.R_reads' (Kd.R_below H75.out hW)).2.2 (Kd.R_reads' (Kd.R_below H75.out hW)).2.1 (Kd.C_below (Kd.C_below HR0.out HBW5.out) hW) HC0.out (Kd.C_below (Kd.C_below HR1.out HBW5.out) hW) HC1.out HAL.out)
        refine wp_region_held_drew (S := (fun W' => W'.cell? ⟨w.heap.size, 0, none⟩ = some (.slice A con.length c) ∧ W'.cell? ⟨w.heap.size, 1, none⟩ = some (.slice B ord.length d) ∧ W'.cell? ⟨w.heap.size, 2, none⟩ = some (.int .i64 nx) ∧ W'.cell? ⟨w.heap.size, 3, none⟩ = some (.int .u64 hn) ∧ W'.cell? ⟨w.heap.size, 4, none⟩ = some (.int .i64 hp) ∧ W'.cell? ⟨by_, 0, none⟩ = some (.int .u64 0) ∧ W'.cell? ⟨by_, 1, none⟩ = some (.int .i64 0) ∧ W'.cell? ⟨by_, 2, none⟩ = some (.int .u64 0) ∧ W'.cell? ⟨by_, 3, none⟩ = some (.int .i64 0) ∧ W'.cell? ⟨by_, 4, none⟩ = some (.slice A5 0 c5) ∧ W'.cell? ⟨by_ + 1, 0, none⟩ = some (.slice A6 con.length c6) ∧ W'.cell? ⟨by_ + 1, 1, none⟩ = some (.slice A7 ord.length c7) ∧ W'.cell? ⟨by_ + 1, 2, none⟩ = some (.int .i64 nx) ∧ W'.cell? ⟨by_ + 1, 3, none⟩ = some (.int .u64 hn) ∧ W'.cell? ⟨by_ + 1, 4, none⟩ = some (.int .i64 hp) ∧ (convert 30 9 (.slice Ao o.length co)).run Try.prog W' = .ok (.string (strOfNums o)) W')) (by kernel_rfl) ?w195S (fun hHeld => ?w195R)
        case w195S => ((try dsimp only); (refine HS.out _ ?_; with_reducible repeat (first | exact HBY4.out | exact HBY3.out | exact Below.refl _ _ | refine Below.drew ?_ | apply pw_below_drewN)))
        case' w195R =>
          first | refine tU 0 hHeld ?_ | refine tH 0 hHeld ?_ | fail
          try simp only [Act.put, List.setIfInBounds_toArray, List.set_cons_zero, List.set_cons_succ]
          first | refine tU 1 hHeld ?_ | refine tH 1 hHeld ?_ | fail
          try simp only [Act.put, List.setIfInBounds_toArray, List.set_cons_zero, List.set_cons_succ]
          first | refine tU 2 hHeld ?_ | refine tH 2 hHeld ?_ | fail
          try simp only [Act.put, List.setIfInBounds_toArray, List.set_cons_zero, List.set_cons_succ]
          first | refine tU 3 hHeld ?_ | refine tH 3 hHeld ?_ | fail
          try simp only [Act.put, List.setIfInBounds_toArray, List.set_cons_zero, List.set_cons_succ]
          first | refine tU 4 hHeld ?_ | refine tH 4 hHeld ?_ | fail
          try simp only [Act.put, List.setIfInBounds_toArray, List.set_cons_zero, List.set_cons_succ]
          first | refine tU 5 hHeld ?_ | refine tH 5 hHeld ?_ | fail
          try simp only [Act.put, List.setIfInBounds_toArray, List.set_cons_zero, List.set_cons_succ]
          first
            | refine tU 6 hHeld ?_
            | refine tH 6 hHeld ?_
            | (refine tkR 6 rfl (by kernel_rfl) (fun K hK => ?_); go_simp; (first | refine hK.out _ _ ?_ (fun hNew => ?_) | ((first | (go_at_call 54; refine (HON.out _ (HBW5.out.trans ((show Below w5.heap.size w5 _ from by with_reducible repeat (first | exact Below.refl _ _ | refine Below.drew ?_ | apply pw_below_drewN)).mono HBW5.out.size))).mono ?_; rintro e w6 ⟨v, rfl, ho, hb⟩; have hcv := own_string (P := Try.prog) Try.underlying30 Try.underlying5 Try.underlying9 (Kd.own_of_R ho); have HBY3 := Aside0.mk (show Below w5.heap.size w5 w6 from Below.trans (by with_reducible repeat (first | exact Below.refl _ _ | refine Below.drew ?_ | apply pw_below_drewN)) (hb.mono (by simp))); clear ho hb) | (go_at_call 48; refine (HAL2.out _ (by with_reducible repeat (first | exact HBY3.out | refine Below.drew ?_ | apply pw_below_drewN))).mono ?_; rintro e w7 ⟨rfl, hb⟩; have HBY4 := Aside0.mk (show Below w5.heap.size w5 w7 from HBY3.out.trans (hb.mono HBY3.out.size)); clear hb)); (first | refine hK.out _ _ ?_ (fun hNew => ?_) | (go_wp2_with fail; refine hK.out _ _ ?_ (fun hNew => ?_)) | fail)) | (go_wp2_with fail; refine hK.out _ _ ?_ (fun hNew => ?_)) | fail); (focus ((try dsimp only); (refine HS.out _ ?_; with_reducible repeat (first | exact HBY4.out | exact HBY3.out | exact Below.refl _ _ | refine Below.drew ?_ | apply pw_below_drewN)))); clear hK K hHeld; have hHeld := hNew; clear hNew)
            | fail
          try simp only [Act.put, List.setIfInBounds_toArray, List.set_cons_zero, List.set_cons_succ]
          first
            | refine tU 7 hHeld ?_
            | refine tH 7 hHeld ?_
            | (refine tkR 7 rfl (by kernel_rfl) (fun K hK => ?_); go_simp; (first | refine hK.out _ _ ?_ (fun hNew => ?_) | ((first | (go_at_call 54; refine (HON.out _ (HBW5.out.trans ((show Below w5.heap.size w5 _ from by with_reducible repeat (first | exact Below.refl _ _ | refine Below.drew ?_ | apply pw_below_drewN)).mono HBW5.out.size))).mono ?_; rintro e w6 ⟨v, rfl, ho, hb⟩; have hcv := own_string (P := Try.prog) Try.underlying30 Try.underlying5 Try.underlying9 (Kd.own_of_R ho); have HBY3 := Aside0.mk (show Below w5.heap.size w5 w6 from Below.trans (by with_reducible repeat (first | exact Below.refl _ _ | refine Below.drew ?_ | apply pw_below_drewN)) (hb.mono (by simp))); clear ho hb) | (go_at_call 48; refine (HAL2.out _ (by with_reducible repeat (first | exact HBY3.out | refine Below.drew ?_ | apply pw_below_drewN))).mono ?_; rintro e w7 ⟨rfl, hb⟩; have HBY4 := Aside0.mk (show Below w5.heap.size w5 w7 from HBY3.out.trans (hb.mono HBY3.out.size)); clear hb)); (first | refine hK.out _ _ ?_ (fun hNew => ?_) | (go_wp2_with fail; refine hK.out _ _ ?_ (fun hNew => ?_)) | fail)) | (go_wp2_with fail; refine hK.out _ _ ?_ (fun hNew => ?_)) | fail); (focus ((try dsimp only); (refine HS.out _ ?_; with_reducible repeat (first | exact HBY4.out | exact HBY3.out | exact Below.refl _ _ | refine Below.drew ?_ | apply pw_below_drewN)))); clear hK K hHeld; have hHeld := hNew; clear hNew)
            | fail
          try simp only [Act.put, List.setIfInBounds_toArray, List.set_cons_zero, List.set_cons_succ]
          first | refine tU 8 hHeld ?_ | refine tH 8 hHeld ?_ | fail
          try simp only [Act.put, List.setIfInBounds_toArray, List.set_cons_zero, List.set_cons_succ]
          first | refine tU 9 hHeld ?_ | refine tH 9 hHeld ?_ | fail
          try simp only [Act.put, List.setIfInBounds_toArray, List.set_cons_zero, List.set_cons_succ]
          first | refine tU 10 hHeld ?_ | refine tH 10 hHeld ?_ | fail
          try simp only [Act.put, List.setIfInBounds_toArray, List.set_cons_zero, List.set_cons_succ]
          first | refine tU 11 hHeld ?_ | refine tH 11 hHeld ?_ | fail
          try simp only [Act.put, List.setIfInBounds_toArray, List.set_cons_zero, List.set_cons_succ]
          first | refine tU 12 hHeld ?_ | refine tH 12 hHeld ?_ | fail
          try simp only [Act.put, List.setIfInBounds_toArray, List.set_cons_zero, List.set_cons_succ]
          first | refine tU 13 hHeld ?_ | refine tH 13 hHeld ?_ | fail
          try simp only [Act.put, List.setIfInBounds_toArray, List.set_cons_zero, List.set_cons_succ]
          first | refine tU 14 hHeld ?_ | refine tH 14 hHeld ?_ | fail
          try simp only [Act.put, List.setIfInBounds_toArray, List.set_cons_zero, List.set_cons_succ]
          first | refine tU 15 hHeld ?_ | refine tH 15 hHeld ?_ | fail
          try simp only [Act.put, List.setIfInBounds_toArray, List.set_cons_zero, List.set_cons_succ]
          first | refine tU 16 hHeld ?_ | refine tH 16 hHeld ?_ | fail
          try simp only [Act.put, List.setIfInBounds_toArray, List.set_cons_zero, List.set_cons_succ]
          first | refine tU 17 hHeld ?_ | refine tH 17 hHeld ?_ | fail
          try simp only [Act.put, List.setIfInBounds_toArray, List.set_cons_zero, List.set_cons_succ]
          first | refine tU 18 hHeld ?_ | refine tH 18 hHeld ?_ | fail
          try simp only [Act.put, List.setIfInBounds_toArray, List.set_cons_zero, List.set_cons_succ]
          first | refine tU 19 hHeld ?_ | refine tH 19 hHeld ?_ | fail
          try simp only [Act.put, List.setIfInBounds_toArray, List.set_cons_zero, List.set_cons_succ]
          first | refine tU 20 hHeld ?_ | refine tH 20 hHeld ?_ | fail
          try simp only [Act.put, List.setIfInBounds_toArray, List.set_cons_zero, List.set_cons_succ]
          first | refine tU 21 hHeld ?_ | refine tH 21 hHeld ?_ | fail
          try simp only [Act.put, List.setIfInBounds_toArray, List.set_cons_zero, List.set_cons_succ]
          first | refine tU 22 hHeld ?_ | refine tH 22 hHeld ?_ | fail
          try simp only [Act.put, List.setIfInBounds_toArray, List.set_cons_zero, List.set_cons_succ]
          first | refine tU 23 hHeld ?_ | refine tH 23 hHeld ?_ | fail
          try simp only [Act.put, List.setIfInBounds_toArray, List.set_cons_zero, List.set_cons_succ]
          first | refine tU 24 hHeld ?_ | refine tH 24 hHeld ?_ | fail
          try simp only [Act.put, List.setIfInBounds_toArray, List.set_cons_zero, List.set_cons_succ]
          first | refine tU 25 hHeld ?_ | refine tH 25 hHeld ?_ | fail
          try simp only [Act.put, List.setIfInBounds_toArray, List.set_cons_zero, List.set_cons_succ]
          first | refine tU 26 hHeld ?_ | refine tH 26 hHeld ?_ | fail
          try simp only [Act.put, List.setIfInBounds_toArray, List.set_cons_zero, List.set_cons_succ]
          first
            | refine tU 27 hHeld ?_
            | refine tH 27 hHeld ?_
            | (refine tkR 27 rfl (by kernel_rfl) (fun K hK => ?_); go_simp; (first | refine hK.out _ _ ?_ (fun hNew => ?_) | ((first | (go_at_call 54; refine (HON.out _ (HBW5.out.trans ((show Below w5.heap.size w5 _ from by with_reducible repeat (first | exact Below.refl _ _ | refine Below.drew ?_ | apply pw_below_drewN)).mono HBW5.out.size))).mono ?_; rintro e w6 ⟨v, rfl, ho, hb⟩; have hcv := own_string (P := Try.prog) Try.underlying30 Try.underlying5 Try.underlying9 (Kd.own_of_R ho); have HBY3 := Aside0.mk (show Below w5.heap.size w5 w6 from Below.trans (by with_reducible repeat (first | exact Below.refl _ _ | refine Below.drew ?_ | apply pw_below_drewN)) (hb.mono (by simp))); clear ho hb) | (go_at_call 48; refine (HAL2.out _ (by with_reducible repeat (first | exact HBY3.out | refine Below.drew ?_ | apply pw_below_drewN))).mono ?_; rintro e w7 ⟨rfl, hb⟩; have HBY4 := Aside0.mk (show Below w5.heap.size w5 w7 from HBY3.out.trans (hb.mono HBY3.out.size)); clear hb)); (first | refine hK.out _ _ ?_ (fun hNew => ?_) | (go_wp2_with fail; refine hK.out _ _ ?_ (fun hNew => ?_)) | fail)) | (go_wp2_with fail; refine hK.out _ _ ?_ (fun hNew => ?_)) | fail); (focus ((try dsimp only); (refine HS.out _ ?_; with_reducible repeat (first | exact HBY4.out | exact HBY3.out | exact Below.refl _ _ | refine Below.drew ?_ | apply pw_below_drewN)))); clear hK K hHeld; have hHeld := hNew; clear hNew)
            | fail
          try simp only [Act.put, List.setIfInBounds_toArray, List.set_cons_zero, List.set_cons_succ]
          first | refine tU 28 hHeld ?_ | refine tH 28 hHeld ?_ | fail
          try simp only [Act.put, List.setIfInBounds_toArray, List.set_cons_zero, List.set_cons_succ]
          first | refine tU 29 hHeld ?_ | refine tH 29 hHeld ?_ | fail
          try simp only [Act.put, List.setIfInBounds_toArray, List.set_cons_zero, List.set_cons_succ]
          first | refine tU 30 hHeld ?_ | refine tH 30 hHeld ?_ | fail
          try simp only [Act.put, List.setIfInBounds_toArray, List.set_cons_zero, List.set_cons_succ]
          first | refine tU 31 hHeld ?_ | refine tH 31 hHeld ?_ | fail
          try simp only [Act.put, List.setIfInBounds_toArray, List.set_cons_zero, List.set_cons_succ]
          first | refine tU 32 hHeld ?_ | refine tH 32 hHeld ?_ | fail
          try simp only [Act.put, List.setIfInBounds_toArray, List.set_cons_zero, List.set_cons_succ]
          first
            | refine tU 33 hHeld ?_
            | refine tH 33 hHeld ?_
            | (refine tkR 33 rfl (by kernel_rfl) (fun K hK => ?_); go_simp; (first | refine hK.out _ _ ?_ (fun hNew => ?_) | ((first | (go_at_call 54; refine (HON.out _ (HBW5.out.trans ((show Below w5.heap.size w5 _ from by with_reducible repeat (first | exact Below.refl _ _ | refine Below.drew ?_ | apply pw_below_drewN)).mono HBW5.out.size))).mono ?_; rintro e w6 ⟨v, rfl, ho, hb⟩; have hcv := own_string (P := Try.prog) Try.underlying30 Try.underlying5 Try.underlying9 (Kd.own_of_R ho); have HBY3 := Aside0.mk (show Below w5.heap.size w5 w6 from Below.trans (by with_reducible repeat (first | exact Below.refl _ _ | refine Below.drew ?_ | apply pw_below_drewN)) (hb.mono (by simp))); clear ho hb) | (go_at_call 48; refine (HAL2.out _ (by with_reducible repeat (first | exact HBY3.out | refine Below.drew ?_ | apply pw_below_drewN))).mono ?_; rintro e w7 ⟨rfl, hb⟩; have HBY4 := Aside0.mk (show Below w5.heap.size w5 w7 from HBY3.out.trans (hb.mono HBY3.out.size)); clear hb)); (first | refine hK.out _ _ ?_ (fun hNew => ?_) | (go_wp2_with fail; refine hK.out _ _ ?_ (fun hNew => ?_)) | fail)) | (go_wp2_with fail; refine hK.out _ _ ?_ (fun hNew => ?_)) | fail); (focus ((try dsimp only); (refine HS.out _ ?_; with_reducible repeat (first | exact HBY4.out | exact HBY3.out | exact Below.refl _ _ | refine Below.drew ?_ | apply pw_below_drewN)))); clear hK K hHeld; have hHeld := hNew; clear hNew)
            | fail
          try simp only [Act.put, List.setIfInBounds_toArray, List.set_cons_zero, List.set_cons_succ]
          first | refine tU 34 hHeld ?_ | refine tH 34 hHeld ?_ | fail
          try simp only [Act.put, List.setIfInBounds_toArray, List.set_cons_zero, List.set_cons_succ]
          first | refine tU 35 hHeld ?_ | refine tH 35 hHeld ?_ | fail
          try simp only [Act.put, List.setIfInBounds_toArray, List.set_cons_zero, List.set_cons_succ]
          refine wpAnyH_done (by kernel_rfl) ?_ _
        all_goals go_wp2_with fail
        all_goals go_ret
        all_goals exact ⟨rfl, HBW5.out.trans (HBY4.out.mono HBW5.out.size)⟩
end Go.Proofs.Ytioooiflpabngaa.PAll
end
section
namespace Go.Proofs.Ytioooiflpabngaa
theorem head_signs : Try.prog.initOrder.toList = [104, 97, 114, 110, 101, 115, 115, 32, 98, 100, 54, 52, 55, 100, 48, 52, 56, 99, 56, 57, 55, 50, 49, 57, 98, 52, 100, 49, 52, 51, 55, 98, 57, 48, 102, 102, 48, 56, 49, 50, 49, 53, 100, 52, 49, 53, 51, 54, 99, 100, 49, 54, 52, 54, 49, 100, 52, 97, 49, 97, 54, 54, 102, 52, 101, 56, 53, 55, 97, 101, 50, 55, 32, 99, 117, 116, 32, 97, 116, 32, 102, 111, 108, 107, 109, 111, 111, 116, 47, 102, 111, 108, 107, 109, 111, 111, 116, 108, 97, 119, 49, 53, 46, 67, 111, 110, 116, 101, 110, 116, 70, 105, 110, 100, 115, 32, 102, 111, 108, 107, 109, 111, 111, 116, 47, 102, 111, 108, 107, 109, 111, 111, 116, 108, 97, 119, 49, 53, 46, 67, 111, 110, 116, 101, 110, 116, 75, 101, 101, 112, 115, 32, 102, 111, 108, 107, 109, 111, 111, 116, 47, 102, 111, 108, 107, 109, 111, 111, 116, 108, 97, 119, 49, 53, 46, 67, 111, 110, 116, 101, 110, 116, 77, 101, 114, 103, 101, 115, 32, 102, 111, 108, 107, 109, 111, 111, 116, 47, 102, 111, 108, 107, 109, 111, 111, 116, 108, 97, 119, 49, 53, 46, 67, 111, 110, 116, 101, 110, 116, 79, 114, 100, 101, 114, 32, 102, 111, 108, 107, 109, 111, 111, 116, 47, 102, 111, 108, 107, 109, 111, 111, 116, 108, 97, 119, 48, 53, 46, 76, 97, 98, 101, 108, 75, 101, 101, 112, 115, 32, 102, 111, 108, 107, 109, 111, 111, 116, 47, 102, 111, 108, 107, 109, 111, 111, 116, 108, 97, 119, 48, 53, 46, 76, 97, 98, 101, 108, 80, 97, 114, 116, 115, 32, 102, 111, 108, 107, 109, 111, 111, 116, 47, 102, 111, 108, 107, 109, 111, 111, 116, 108, 97, 119, 48, 53, 46, 76, 97, 98, 101, 108, 83, 111, 114, 116, 115, 32, 102, 111, 108, 107, 109, 111, 111, 116, 47, 102, 111, 108, 107, 109, 111, 111, 116, 108, 97, 119, 48, 53, 46, 76, 97, 98, 101, 108, 66, 101, 104, 105, 110, 100, 32, 102, 111, 108, 107, 109, 111, 111, 116, 47, 102, 111, 108, 107, 109, 111, 111, 116, 108, 97, 119, 48, 53, 46, 76, 97, 98, 101, 108, 79, 114, 100, 101, 114, 32, 102, 111, 108, 107, 109, 111, 111, 116, 47, 102, 111, 108, 107, 109, 111, 111, 116, 108, 97, 119, 49, 53, 46, 67, 111, 110, 116, 101, 110, 116, 65, 112, 97, 114, 116, 32, 102, 111, 108, 107, 109, 111, 111, 116, 47, 102, 111, 108, 107, 109, 111, 111, 116, 108, 97, 119, 49, 53, 46, 67, 111, 110, 116, 101, 110, 116, 79, 110, 101, 32, 102, 111, 108, 107, 109, 111, 111, 116, 47, 102, 111, 108, 107, 109, 111, 111, 116, 108, 97, 119, 49, 53, 46, 67, 111, 110, 116, 101, 110, 116, 82, 101, 97, 100, 115, 32, 102, 111, 108, 107, 109, 111, 111, 116, 47, 102, 111, 108, 107, 109, 111, 111, 116, 108, 97, 119, 49, 53, 46, 67, 111, 110, 116, 101, 110, 116, 65, 108, 108, 32, 102, 111, 108, 107, 109, 111, 111, 116, 47, 102, 111, 108, 107, 109, 111, 111, 116, 108, 97, 119, 49, 54, 46, 69, 120, 99, 104, 97, 110, 103, 101, 80, 108, 97, 121, 115, 32, 102, 111, 108, 107, 109, 111, 111, 116, 47, 102, 111, 108, 107, 109, 111, 111, 116, 108, 97, 119, 49, 54, 46, 69, 120, 99, 104, 97, 110, 103, 101, 84, 117, 114, 110, 101, 100, 32, 102, 111, 108, 107, 109, 111, 111, 116, 47, 102, 111, 108, 107, 109, 111, 111, 116, 108, 97, 119, 49, 54, 46, 69, 120, 99, 104, 97, 110, 103, 101, 70, 117, 108, 108, 32, 102, 111, 108, 107, 109, 111, 111, 116, 47, 102, 111, 108, 107, 109, 111, 111, 116, 108, 97, 119, 49, 54, 46, 69, 120, 99, 104, 97, 110, 103, 101, 75, 101, 101, 112, 115, 32, 102, 111, 108, 107, 109, 111, 111, 116, 47, 102, 111, 108, 107, 109, 111, 111, 116, 108, 97, 119, 49, 54, 46, 69, 120, 99, 104, 97, 110, 103, 101, 79, 110, 101, 32, 102, 111, 108, 107, 109, 111, 111, 116, 47, 102, 111, 108, 107, 109, 111, 111, 116, 108, 97, 119, 49, 54, 46, 69, 120, 99, 104, 97, 110, 103, 101, 77, 111, 114, 101].map Char.ofNat := by
  have h : Try.prog.initOrder = String.ofList ([104, 97, 114, 110, 101, 115, 115, 32, 98, 100, 54, 52, 55, 100, 48, 52, 56, 99, 56, 57, 55, 50, 49, 57, 98, 52, 100, 49, 52, 51, 55, 98, 57, 48, 102, 102, 48, 56, 49, 50, 49, 53, 100, 52, 49, 53, 51, 54, 99, 100, 49, 54, 52, 54, 49, 100, 52, 97, 49, 97, 54, 54, 102, 52, 101, 56, 53, 55, 97, 101, 50, 55, 32, 99, 117, 116, 32, 97, 116, 32, 102, 111, 108, 107, 109, 111, 111, 116, 47, 102, 111, 108, 107, 109, 111, 111, 116, 108, 97, 119, 49, 53, 46, 67, 111, 110, 116, 101, 110, 116, 70, 105, 110, 100, 115, 32, 102, 111, 108, 107, 109, 111, 111, 116, 47, 102, 111, 108, 107, 109, 111, 111, 116, 108, 97, 119, 49, 53, 46, 67, 111, 110, 116, 101, 110, 116, 75, 101, 101, 112, 115, 32, 102, 111, 108, 107, 109, 111, 111, 116, 47, 102, 111, 108, 107, 109, 111, 111, 116, 108, 97, 119, 49, 53, 46, 67, 111, 110, 116, 101, 110, 116, 77, 101, 114, 103, 101, 115, 32, 102, 111, 108, 107, 109, 111, 111, 116, 47, 102, 111, 108, 107, 109, 111, 111, 116, 108, 97, 119, 49, 53, 46, 67, 111, 110, 116, 101, 110, 116, 79, 114, 100, 101, 114, 32, 102, 111, 108, 107, 109, 111, 111, 116, 47, 102, 111, 108, 107, 109, 111, 111, 116, 108, 97, 119, 48, 53, 46, 76, 97, 98, 101, 108, 75, 101, 101, 112, 115, 32, 102, 111, 108, 107, 109, 111, 111, 116, 47, 102, 111, 108, 107, 109, 111, 111, 116, 108, 97, 119, 48, 53, 46, 76, 97, 98, 101, 108, 80, 97, 114, 116, 115, 32, 102, 111, 108, 107, 109, 111, 111, 116, 47, 102, 111, 108, 107, 109, 111, 111, 116, 108, 97, 119, 48, 53, 46, 76, 97, 98, 101, 108, 83, 111, 114, 116, 115, 32, 102, 111, 108, 107, 109, 111, 111, 116, 47, 102, 111, 108, 107, 109, 111, 111, 116, 108, 97, 119, 48, 53, 46, 76, 97, 98, 101, 108, 66, 101, 104, 105, 110, 100, 32, 102, 111, 108, 107, 109, 111, 111, 116, 47, 102, 111, 108, 107, 109, 111, 111, 116, 108, 97, 119, 48, 53, 46, 76, 97, 98, 101, 108, 79, 114, 100, 101, 114, 32, 102, 111, 108, 107, 109, 111, 111, 116, 47, 102, 111, 108, 107, 109, 111, 111, 116, 108, 97, 119, 49, 53, 46, 67, 111, 110, 116, 101, 110, 116, 65, 112, 97, 114, 116, 32, 102, 111, 108, 107, 109, 111, 111, 116, 47, 102, 111, 108, 107, 109, 111, 111, 116, 108, 97, 119, 49, 53, 46, 67, 111, 110, 116, 101, 110, 116, 79, 110, 101, 32, 102, 111, 108, 107, 109, 111, 111, 116, 47, 102, 111, 108, 107, 109, 111, 111, 116, 108, 97, 119, 49, 53, 46, 67, 111, 110, 116, 101, 110, 116, 82, 101, 97, 100, 115, 32, 102, 111, 108, 107, 109, 111, 111, 116, 47, 102, 111, 108, 107, 109, 111, 111, 116, 108, 97, 119, 49, 53, 46, 67, 111, 110, 116, 101, 110, 116, 65, 108, 108, 32, 102, 111, 108, 107, 109, 111, 111, 116, 47, 102, 111, 108, 107, 109, 111, 111, 116, 108, 97, 119, 49, 54, 46, 69, 120, 99, 104, 97, 110, 103, 101, 80, 108, 97, 121, 115, 32, 102, 111, 108, 107, 109, 111, 111, 116, 47, 102, 111, 108, 107, 109, 111, 111, 116, 108, 97, 119, 49, 54, 46, 69, 120, 99, 104, 97, 110, 103, 101, 84, 117, 114, 110, 101, 100, 32, 102, 111, 108, 107, 109, 111, 111, 116, 47, 102, 111, 108, 107, 109, 111, 111, 116, 108, 97, 119, 49, 54, 46, 69, 120, 99, 104, 97, 110, 103, 101, 70, 117, 108, 108, 32, 102, 111, 108, 107, 109, 111, 111, 116, 47, 102, 111, 108, 107, 109, 111, 111, 116, 108, 97, 119, 49, 54, 46, 69, 120, 99, 104, 97, 110, 103, 101, 75, 101, 101, 112, 115, 32, 102, 111, 108, 107, 109, 111, 111, 116, 47, 102, 111, 108, 107, 109, 111, 111, 116, 108, 97, 119, 49, 54, 46, 69, 120, 99, 104, 97, 110, 103, 101, 79, 110, 101, 32, 102, 111, 108, 107, 109, 111, 111, 116, 47, 102, 111, 108, 107, 109, 111, 111, 116, 108, 97, 119, 49, 54, 46, 69, 120, 99, 104, 97, 110, 103, 101, 77, 111, 114, 101].map Char.ofNat) := by kernel_rfl
  rw [h, String.toList_ofList]
theorem head_words : wordsSigns ([104, 97, 114, 110, 101, 115, 115, 32, 98, 100, 54, 52, 55, 100, 48, 52, 56, 99, 56, 57, 55, 50, 49, 57, 98, 52, 100, 49, 52, 51, 55, 98, 57, 48, 102, 102, 48, 56, 49, 50, 49, 53, 100, 52, 49, 53, 51, 54, 99, 100, 49, 54, 52, 54, 49, 100, 52, 97, 49, 97, 54, 54, 102, 52, 101, 56, 53, 55, 97, 101, 50, 55, 32, 99, 117, 116, 32, 97, 116, 32, 102, 111, 108, 107, 109, 111, 111, 116, 47, 102, 111, 108, 107, 109, 111, 111, 116, 108, 97, 119, 49, 53, 46, 67, 111, 110, 116, 101, 110, 116, 70, 105, 110, 100, 115, 32, 102, 111, 108, 107, 109, 111, 111, 116, 47, 102, 111, 108, 107, 109, 111, 111, 116, 108, 97, 119, 49, 53, 46, 67, 111, 110, 116, 101, 110, 116, 75, 101, 101, 112, 115, 32, 102, 111, 108, 107, 109, 111, 111, 116, 47, 102, 111, 108, 107, 109, 111, 111, 116, 108, 97, 119, 49, 53, 46, 67, 111, 110, 116, 101, 110, 116, 77, 101, 114, 103, 101, 115, 32, 102, 111, 108, 107, 109, 111, 111, 116, 47, 102, 111, 108, 107, 109, 111, 111, 116, 108, 97, 119, 49, 53, 46, 67, 111, 110, 116, 101, 110, 116, 79, 114, 100, 101, 114, 32, 102, 111, 108, 107, 109, 111, 111, 116, 47, 102, 111, 108, 107, 109, 111, 111, 116, 108, 97, 119, 48, 53, 46, 76, 97, 98, 101, 108, 75, 101, 101, 112, 115, 32, 102, 111, 108, 107, 109, 111, 111, 116, 47, 102, 111, 108, 107, 109, 111, 111, 116, 108, 97, 119, 48, 53, 46, 76, 97, 98, 101, 108, 80, 97, 114, 116, 115, 32, 102, 111, 108, 107, 109, 111, 111, 116, 47, 102, 111, 108, 107, 109, 111, 111, 116, 108, 97, 119, 48, 53, 46, 76, 97, 98, 101, 108, 83, 111, 114, 116, 115, 32, 102, 111, 108, 107, 109, 111, 111, 116, 47, 102, 111, 108, 107, 109, 111, 111, 116, 108, 97, 119, 48, 53, 46, 76, 97, 98, 101, 108, 66, 101, 104, 105, 110, 100, 32, 102, 111, 108, 107, 109, 111, 111, 116, 47, 102, 111, 108, 107, 109, 111, 111, 116, 108, 97, 119, 48, 53, 46, 76, 97, 98, 101, 108, 79, 114, 100, 101, 114, 32, 102, 111, 108, 107, 109, 111, 111, 116, 47, 102, 111, 108, 107, 109, 111, 111, 116, 108, 97, 119, 49, 53, 46, 67, 111, 110, 116, 101, 110, 116, 65, 112, 97, 114, 116, 32, 102, 111, 108, 107, 109, 111, 111, 116, 47, 102, 111, 108, 107, 109, 111, 111, 116, 108, 97, 119, 49, 53, 46, 67, 111, 110, 116, 101, 110, 116, 79, 110, 101, 32, 102, 111, 108, 107, 109, 111, 111, 116, 47, 102, 111, 108, 107, 109, 111, 111, 116, 108, 97, 119, 49, 53, 46, 67, 111, 110, 116, 101, 110, 116, 82, 101, 97, 100, 115, 32, 102, 111, 108, 107, 109, 111, 111, 116, 47, 102, 111, 108, 107, 109, 111, 111, 116, 108, 97, 119, 49, 53, 46, 67, 111, 110, 116, 101, 110, 116, 65, 108, 108, 32, 102, 111, 108, 107, 109, 111, 111, 116, 47, 102, 111, 108, 107, 109, 111, 111, 116, 108, 97, 119, 49, 54, 46, 69, 120, 99, 104, 97, 110, 103, 101, 80, 108, 97, 121, 115, 32, 102, 111, 108, 107, 109, 111, 111, 116, 47, 102, 111, 108, 107, 109, 111, 111, 116, 108, 97, 119, 49, 54, 46, 69, 120, 99, 104, 97, 110, 103, 101, 84, 117, 114, 110, 101, 100, 32, 102, 111, 108, 107, 109, 111, 111, 116, 47, 102, 111, 108, 107, 109, 111, 111, 116, 108, 97, 119, 49, 54, 46, 69, 120, 99, 104, 97, 110, 103, 101, 70, 117, 108, 108, 32, 102, 111, 108, 107, 109, 111, 111, 116, 47, 102, 111, 108, 107, 109, 111, 111, 116, 108, 97, 119, 49, 54, 46, 69, 120, 99, 104, 97, 110, 103, 101, 75, 101, 101, 112, 115, 32, 102, 111, 108, 107, 109, 111, 111, 116, 47, 102, 111, 108, 107, 109, 111, 111, 116, 108, 97, 119, 49, 54, 46, 69, 120, 99, 104, 97, 110, 103, 101, 79, 110, 101, 32, 102, 111, 108, 107, 109, 111, 111, 116, 47, 102, 111, 108, 107, 109, 111, 111, 116, 108, 97, 119, 49, 54, 46, 69, 120, 99, 104, 97, 110, 103, 101, 77, 111, 114, 101].map Char.ofNat) = [[104, 97, 114, 110, 101, 115, 115], [98, 100, 54, 52, 55, 100, 48, 52, 56, 99, 56, 57, 55, 50, 49, 57, 98, 52, 100, 49, 52, 51, 55, 98, 57, 48, 102, 102, 48, 56, 49, 50, 49, 53, 100, 52, 49, 53, 51, 54, 99, 100, 49, 54, 52, 54, 49, 100, 52, 97, 49, 97, 54, 54, 102, 52, 101, 56, 53, 55, 97, 101, 50, 55], [99, 117, 116], [97, 116], [102, 111, 108, 107, 109, 111, 111, 116, 47, 102, 111, 108, 107, 109, 111, 111, 116, 108, 97, 119, 49, 53, 46, 67, 111, 110, 116, 101, 110, 116, 70, 105, 110, 100, 115], [102, 111, 108, 107, 109, 111, 111, 116, 47, 102, 111, 108, 107, 109, 111, 111, 116, 108, 97, 119, 49, 53, 46, 67, 111, 110, 116, 101, 110, 116, 75, 101, 101, 112, 115], [102, 111, 108, 107, 109, 111, 111, 116, 47, 102, 111, 108, 107, 109, 111, 111, 116, 108, 97, 119, 49, 53, 46, 67, 111, 110, 116, 101, 110, 116, 77, 101, 114, 103, 101, 115], [102, 111, 108, 107, 109, 111, 111, 116, 47, 102, 111, 108, 107, 109, 111, 111, 116, 108, 97, 119, 49, 53, 46, 67, 111, 110, 116, 101, 110, 116, 79, 114, 100, 101, 114], [102, 111, 108, 107, 109, 111, 111, 116, 47, 102, 111, 108, 107, 109, 111, 111, 116, 108, 97, 119, 48, 53, 46, 76, 97, 98, 101, 108, 75, 101, 101, 112, 115], [102, 111, 108, 107, 109, 111, 111, 116, 47, 102, 111, 108, 107, 109, 111, 111, 116, 108, 97, 119, 48, 53, 46, 76, 97, 98, 101, 108, 80, 97, 114, 116, 115], [102, 111, 108, 107, 109, 111, 111, 116, 47, 102, 111, 108, 107, 109, 111, 111, 116, 108, 97, 119, 48, 53, 46, 76, 97, 98, 101, 108, 83, 111, 114, 116, 115], [102, 111, 108, 107, 109, 111, 111, 116, 47, 102, 111, 108, 107, 109, 111, 111, 116, 108, 97, 119, 48, 53, 46, 76, 97, 98, 101, 108, 66, 101, 104, 105, 110, 100], [102, 111, 108, 107, 109, 111, 111, 116, 47, 102, 111, 108, 107, 109, 111, 111, 116, 108, 97, 119, 48, 53, 46, 76, 97, 98, 101, 108, 79, 114, 100, 101, 114], [102, 111, 108, 107, 109, 111, 111, 116, 47, 102, 111, 108, 107, 109, 111, 111, 116, 108, 97, 119, 49, 53, 46, 67, 111, 110, 116, 101, 110, 116, 65, 112, 97, 114, 116], [102, 111, 108, 107, 109, 111, 111, 116, 47, 102, 111, 108, 107, 109, 111, 111, 116, 108, 97, 119, 49, 53, 46, 67, 111, 110, 116, 101, 110, 116, 79, 110, 101], [102, 111, 108, 107, 109, 111, 111, 116, 47, 102, 111, 108, 107, 109, 111, 111, 116, 108, 97, 119, 49, 53, 46, 67, 111, 110, 116, 101, 110, 116, 82, 101, 97, 100, 115], [102, 111, 108, 107, 109, 111, 111, 116, 47, 102, 111, 108, 107, 109, 111, 111, 116, 108, 97, 119, 49, 53, 46, 67, 111, 110, 116, 101, 110, 116, 65, 108, 108], [102, 111, 108, 107, 109, 111, 111, 116, 47, 102, 111, 108, 107, 109, 111, 111, 116, 108, 97, 119, 49, 54, 46, 69, 120, 99, 104, 97, 110, 103, 101, 80, 108, 97, 121, 115], [102, 111, 108, 107, 109, 111, 111, 116, 47, 102, 111, 108, 107, 109, 111, 111, 116, 108, 97, 119, 49, 54, 46, 69, 120, 99, 104, 97, 110, 103, 101, 84, 117, 114, 110, 101, 100], [102, 111, 108, 107, 109, 111, 111, 116, 47, 102, 111, 108, 107, 109, 111, 111, 116, 108, 97, 119, 49, 54, 46, 69, 120, 99, 104, 97, 110, 103, 101, 70, 117, 108, 108], [102, 111, 108, 107, 109, 111, 111, 116, 47, 102, 111, 108, 107, 109, 111, 111, 116, 108, 97, 119, 49, 54, 46, 69, 120, 99, 104, 97, 110, 103, 101, 75, 101, 101, 112, 115], [102, 111, 108, 107, 109, 111, 111, 116, 47, 102, 111, 108, 107, 109, 111, 111, 116, 108, 97, 119, 49, 54, 46, 69, 120, 99, 104, 97, 110, 103, 101, 79, 110, 101], [102, 111, 108, 107, 109, 111, 111, 116, 47, 102, 111, 108, 107, 109, 111, 111, 116, 108, 97, 119, 49, 54, 46, 69, 120, 99, 104, 97, 110, 103, 101, 77, 111, 114, 101]].map (List.map Char.ofNat) := by kernel_rfl
theorem head_behind : ∃ rest, behindMainWord (wordsSigns Try.prog.initOrder.toList) = [99, 117, 116].map Char.ofNat :: rest := by
  rw [head_signs, head_words]
  exact ⟨[[99, 117, 116], [97, 116], [102, 111, 108, 107, 109, 111, 111, 116, 47, 102, 111, 108, 107, 109, 111, 111, 116, 108, 97, 119, 49, 53, 46, 67, 111, 110, 116, 101, 110, 116, 70, 105, 110, 100, 115], [102, 111, 108, 107, 109, 111, 111, 116, 47, 102, 111, 108, 107, 109, 111, 111, 116, 108, 97, 119, 49, 53, 46, 67, 111, 110, 116, 101, 110, 116, 75, 101, 101, 112, 115], [102, 111, 108, 107, 109, 111, 111, 116, 47, 102, 111, 108, 107, 109, 111, 111, 116, 108, 97, 119, 49, 53, 46, 67, 111, 110, 116, 101, 110, 116, 77, 101, 114, 103, 101, 115], [102, 111, 108, 107, 109, 111, 111, 116, 47, 102, 111, 108, 107, 109, 111, 111, 116, 108, 97, 119, 49, 53, 46, 67, 111, 110, 116, 101, 110, 116, 79, 114, 100, 101, 114], [102, 111, 108, 107, 109, 111, 111, 116, 47, 102, 111, 108, 107, 109, 111, 111, 116, 108, 97, 119, 48, 53, 46, 76, 97, 98, 101, 108, 75, 101, 101, 112, 115], [102, 111, 108, 107, 109, 111, 111, 116, 47, 102, 111, 108, 107, 109, 111, 111, 116, 108, 97, 119, 48, 53, 46, 76, 97, 98, 101, 108, 80, 97, 114, 116, 115], [102, 111, 108, 107, 109, 111, 111, 116, 47, 102, 111, 108, 107, 109, 111, 111, 116, 108, 97, 119, 48, 53, 46, 76, 97, 98, 101, 108, 83, 111, 114, 116, 115], [102, 111, 108, 107, 109, 111, 111, 116, 47, 102, 111, 108, 107, 109, 111, 111, 116, 108, 97, 119, 48, 53, 46, 76, 97, 98, 101, 108, 66, 101, 104, 105, 110, 100], [102, 111, 108, 107, 109, 111, 111, 116, 47, 102, 111, 108, 107, 109, 111, 111, 116, 108, 97, 119, 48, 53, 46, 76, 97, 98, 101, 108, 79, 114, 100, 101, 114], [102, 111, 108, 107, 109, 111, 111, 116, 47, 102, 111, 108, 107, 109, 111, 111, 116, 108, 97, 119, 49, 53, 46, 67, 111, 110, 116, 101, 110, 116, 65, 112, 97, 114, 116], [102, 111, 108, 107, 109, 111, 111, 116, 47, 102, 111, 108, 107, 109, 111, 111, 116, 108, 97, 119, 49, 53, 46, 67, 111, 110, 116, 101, 110, 116, 79, 110, 101], [102, 111, 108, 107, 109, 111, 111, 116, 47, 102, 111, 108, 107, 109, 111, 111, 116, 108, 97, 119, 49, 53, 46, 67, 111, 110, 116, 101, 110, 116, 82, 101, 97, 100, 115], [102, 111, 108, 107, 109, 111, 111, 116, 47, 102, 111, 108, 107, 109, 111, 111, 116, 108, 97, 119, 49, 53, 46, 67, 111, 110, 116, 101, 110, 116, 65, 108, 108], [102, 111, 108, 107, 109, 111, 111, 116, 47, 102, 111, 108, 107, 109, 111, 111, 116, 108, 97, 119, 49, 54, 46, 69, 120, 99, 104, 97, 110, 103, 101, 80, 108, 97, 121, 115], [102, 111, 108, 107, 109, 111, 111, 116, 47, 102, 111, 108, 107, 109, 111, 111, 116, 108, 97, 119, 49, 54, 46, 69, 120, 99, 104, 97, 110, 103, 101, 84, 117, 114, 110, 101, 100], [102, 111, 108, 107, 109, 111, 111, 116, 47, 102, 111, 108, 107, 109, 111, 111, 116, 108, 97, 119, 49, 54, 46, 69, 120, 99, 104, 97, 110, 103, 101, 70, 117, 108, 108], [102, 111, 108, 107, 109, 111, 111, 116, 47, 102, 111, 108, 107, 109, 111, 111, 116, 108, 97, 119, 49, 54, 46, 69, 120, 99, 104, 97, 110, 103, 101, 75, 101, 101, 112, 115], [102, 111, 108, 107, 109, 111, 111, 116, 47, 102, 111, 108, 107, 109, 111, 111, 116, 108, 97, 119, 49, 54, 46, 69, 120, 99, 104, 97, 110, 103, 101, 79, 110, 101], [102, 111, 108, 107, 109, 111, 111, 116, 47, 102, 111, 108, 107, 109, 111, 111, 116, 108, 97, 119, 49, 54, 46, 69, 120, 99, 104, 97, 110, 103, 101, 77, 111, 114, 101]].tail.map (List.map Char.ofNat), by kernel_rfl⟩
theorem cut_gc : (([99, 117, 116].map Char.ofNat) == "gc".toList) = false := by kernel_rfl
theorem cut_spec : (([99, 117, 116].map Char.ofNat) == "spec".toList) = false := by kernel_rfl
theorem cut_carried : (([99, 117, 116].map Char.ofNat) == "carried".toList) = false := by kernel_rfl
theorem cut_cut : (([99, 117, 116].map Char.ofNat) == "cut".toList) = true := by kernel_rfl
theorem cut_some (rest : List (List Char)) : ((([99, 117, 116].map Char.ofNat) :: rest).head? == some "cut".toList) = true := cut_cut
theorem cut_strip (rest : List (List Char)) : stripLifts liftWords (([99, 117, 116].map Char.ofNat) :: rest) = ([], ([99, 117, 116].map Char.ofNat) :: rest) := by
  simp only [liftWords, stripLifts]
  rfl
theorem make_of {P : Program} {rest : List (List Char)} (h : behindMainWord (wordsSigns P.initOrder.toList) = [99, 117, 116].map Char.ofNat :: rest) : P.make = some .cut := by
  unfold Program.make
  rw [h]
  simp only [cut_gc, cut_spec, cut_cut, Bool.or_false, Bool.true_or, Bool.false_eq_true, if_false, if_true]
theorem lifts_of {P : Program} {rest : List (List Char)} (h : behindMainWord (wordsSigns P.initOrder.toList) = [99, 117, 116].map Char.ofNat :: rest) : P.liftsFinal = false := by
  unfold Program.liftsFinal Program.headLifts
  rw [h]
  simp only [cut_strip, List.head?_cons]
  show ((([99, 117, 116].map Char.ofNat) == "carried".toList) && _ || _) = false
  rw [cut_carried]
  kernel_rfl
theorem enter_of {P : Program} {rest : List (List Char)} (h : behindMainWord (wordsSigns P.initOrder.toList) = [99, 117, 116].map Char.ofNat :: rest) (h1 : P.laysLater = false) (h2 : P.bearsReflect = false) (h3 : P.doorFits [] = true) : P.mayEnter = true := by
  unfold Program.mayEnter
  rw [h]
  simp only [cut_strip, cut_some, cut_gc, cut_spec, cut_carried, h1, h2, h3, Bool.not_false, Bool.or_true, Bool.and_true, Bool.or_false, Bool.false_and, List.contains_nil]
theorem head_make : Try.prog.make = some .cut := head_behind.elim fun _ h => make_of h
theorem head_lifts : Try.prog.liftsFinal = false := head_behind.elim fun _ h => lifts_of h
theorem head_enter : Try.prog.mayEnter = true := head_behind.elim fun _ h => enter_of h (by kernel_rfl) (by kernel_rfl) (by kernel_rfl)
end Go.Proofs.Ytioooiflpabngaa
end
section
namespace Go.Proofs.Ytioooiflpabngaa.contentAll
open Go.ChangeShapes Go.WideShapes Go.ChangeAt Go.RowKit Go.Proofs.Ytioooiflpabngaa.PAll
set_option linter.unusedVariables false
theorem own : ownKnob Try.prog.godebug = none := by kernel_rfl
theorem laidOut : laidOutB Try.prog = true := by kernel_rfl
set_option maxRecDepth 100000 in
theorem lifted (os : Os) (started : os.Started) (H : Type) (enc : TypeId × Value → H) :
    ReturnsInHanded {} Try.checked os 15 .any (Rows.contentAllSpec.pre6 enc Try.prog Try.f15 Rows.contentAllRow.domain false) (Rows.contentAllSpec.post enc Try.prog Try.f15 false true false false) := by
  refine returnsInHanded_of_change_sized (C := Try.checked) own started (by kernel_rfl) Try.func15
    (ChangeSpec.witness6 (enc := enc) (C := Try.checked) false ⟨#[], #[.agg #[.slice none 0 0, .slice none 0 0, .int .i64 0, .int .u64 0, .int .i64 0]], []⟩ 8 (by kernel_rfl) (by kernel_rfl) (by kernel_rfl) (by kernel_rfl)) ?_
  intro W base args ds gs before hval0 hW hcnd hsz0 _
  have hsz : (DataW.weightsEach Try.prog (Try.f15.params.toList ++ Rows.contentAllSpec.plain.varTypes Try.prog) (ds ++ gs)).all (· ≤ reachBytes) = true := hsz0
  have hval : ∀ (j : Nat) t v, Try.f15.params[j]? = some t → args[j]? = some v → Value.okWide Try.prog W .any base t v := hval0
  have hW' := hW
  obtain ⟨p, q, hA0, hV, rfl, hfz, hnd⟩ := hW
  have hA : DataW.TrodAll enc Try.prog W 0 (fun _ => true) true Try.f15.params.toList args.toList ds p := hA0
  rw [Try.params15] at hA hval hsz
  obtain ⟨v0, vs0, d0, ds0, p0, q0, hargs, rfl, rfl, h0, r0⟩ := trodAll_cons hA
  obtain ⟨rfl, rfl, rfl⟩ := trodAll_nil r0
  obtain rfl : args = #[v0] := by cases args; simp_all
  obtain ⟨rfl, rfl⟩ := trodVars_none hV
  have z0 : ∀ n ∈ d0.weights Try.prog 53, n ≤ reachBytes := fun n hn => of_decide_eq_true (List.all_eq_true.1 hsz _ (DataW.weights_mem_each (j := 0) (t := 53) rfl rfl n hn))
  have k0 := h0
  have lt0 : ∀ x ∈ p0, x.block < W.heap.size := by obtain ⟨m, hm⟩ := k0; exact DataW.trod_lt m _ _ _ hm
  obtain ⟨cs0, rfl, _⟩ := okWide_struct Try.underlying53 (hval 0 53 v0 rfl rfl)
  obtain ⟨x0, hK0, ok0⟩ := arg_trod opensS h0 z0
  obtain ⟨A0, c0, B0, b0, hcs0, hc0, hr0, hb0, hq0⟩ := k53_open hK0
  have e0 := agg_of hcs0
  subst e0
  clear hA0 hval0 hsz0 hsz
  refine (lawAll.calls _ _ _ _ x0 W hr0 hc0 hq0 hb0 ok0).mono fun e W' ⟨he, bel⟩ => ?_
  subst he
  exact ⟨_, rfl, _, _, _, [], _, [], hW', trodAll_mk1 (shut_bool Try.underlying4 _), (trodAll_cons_mk (Below.trod laidOut (by kernel_rfl) (of_decide_eq_true (by kernel_rfl)) k0 bel lt0) trodAll_mk0), rfl, bel.frame _, fun h => by cases h⟩
theorem closed : joinedFacts Try.prog 15 Try.f15 Rows.contentAllSpec Rows.contentAllRow = true := by
  unfold joinedFacts
  rw [head_enter, head_lifts, head_make]
  kernel_rfl
theorem over : Rows.contentAllRow.holds Try.pinned (OpenSpec.ofChange Rows.contentAllSpec) :=
  OpenClaim.holds_of_wide 15 Try.f15 rfl rfl rfl rfl rfl rfl rfl ⟨rfl, rfl, rfl, rfl, rfl⟩ rfl rfl rfl rfl rfl (by kernel_rfl) Try.func15 closed
    (of_decide_eq_true (by kernel_rfl)) (by unfold Func.isWrapper; first | (rw [if_pos (by decide +kernel)]; kernel_rfl) | (rw [if_neg (by decide +kernel)]; exact ⟨rfl, rfl⟩))
    (fun os started H enc _ => lifted os started H enc)
theorem proved : Rows.ContentAllSaid := over
end Go.Proofs.Ytioooiflpabngaa.contentAll
end
