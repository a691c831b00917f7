/- Parts: HSortB, HSort, HBehindA, HClone, HBehind, PAllx34, HAwake05, PAllx35, QLabelKeeps, HJoined, RLabelKeeps. -/
import Derived.Test.YtioooiflpabngaaLabelKeepsA
import Derived.Lib.SlicesCompact
import Derived.WalkKit
import Derived.Carry
import Derived.Maps.OwnOps
import Derived.WalkSpells
import Derived.Test.YtioooiflpabngaaRows
import Derived.ProofKit
import Derived.OpenShut
import Derived.ShutString
import Derived.ChangeOld
import Derived.Below
import Derived.SizedLaws
set_option linter.unusedVariables false
set_option linter.unusedSimpArgs false
namespace Go.Proofs.Ytioooiflpabngaa.PAll
open Go.RowKit Go.Sort Go.Shelf Go.Proofs.YtioooiflpabngaaW.PrintWords Go.Proofs.YtioooiflpabngaaW.PrintLast Go.Proofs.YtioooiflpabngaaW.PrintMore
set_option linter.unusedVariables false
set_option linter.unusedSimpArgs false
instance : DecidableEq S27 := fun a b => decidable_of_iff (eqL a b = true) eqL_iff

theorem step_callV {P : Program} {w : World} {ops : Array Oper} {o : Oper} {a : Act} {K : Act → World → Prop} {Q : Exit → Act → World → Prop} {E : Prop} (hgd : o.guard = none) {f : FuncId} {fn : Func} {as_ : Array Operand} {ts : Array TypeId} {t : Tmp} (hf : P.funcs[f]? = some fn) (hname : (fn.name == "runtime.NumGoroutine") = false) (hb : fn.body.isSome = true) (args : Array Value)
    (hop : o.op = .call { callee := .value (.tmp t), args := as_, argTypes := ts }) (hv : a.eval (.tmp t) = .func (.func f) #[] #[]) (hargs : as_.map a.eval = args)
    (h : Calls P f args w fun e w' => ∃ v, e = .returned v ∧ K (a.put o.dst v) w') : if Region.wanted o (yielded ops a.tmps) = true then Oper.wp P o a w K Q else E := by
  have hw : Region.wanted o (yielded ops a.tmps) = true := by simp [Region.wanted, hgd]
  have h2 : if Region.wanted o (yielded ops a.tmps) = true then Oper.wp P o a w K Q else K (a.put o.dst undef) w := by
    refine call_ f args hw rfl ?_ h
    have he := enters_ hf hname hb args w
    unfold execOp
    simp [hop, resolve, hv, Deferred.ofValue, invoke, hargs, he]
  rw [if_pos hw] at h2 ⊢
  exact h2

section
attribute [local go_sem high] eqA27
set_option maxRecDepth 100000 in
theorem same1 (x y : S27) (W : World) : Calls Try.prog 82 #[.agg (encL x).toArray, .agg (encL y).toArray] W fun e w' => e = .returned (.bool (eqL x y)) ∧ Below W.heap.size W w' := by
  unfold encL
  go_enter Try.func82, Try.ntmps82
  go_wp2
  go_ret
  exact ⟨rfl, by repeat (first | exact Below.refl _ _ | apply below_alloc | refine below_set ?_ (Nat.le_refl _))⟩
end

theorem rd_at (xs : List S27) (n : Nat) : rd_T27 xs (n : Int) = xs.toArray[n]! := by
  unfold rd_T27
  rw [Int.toNat_natCast, List.getD_eq_getElem?_getD]
  by_cases h : n < xs.length
  · simp [h]
  · simp [h]
    rfl
theorem sizeL : (Try.prog.info? 27).map (·.size) = some 4 := by
  obtain ⟨i, hi, he⟩ := Option.map_eq_some_iff.1 info27
  simp only [Prod.mk.injEq] at he
  rw [hi, Option.map_some, he.2.1]
theorem rd_atA (dk : Array S27) (n : Nat) : rd_T27 dk.toList (n : Int) = dk[n]! := by rw [rd_at]
theorem grown_step {w wi w3 : World} {row : Option Nat} (h : w.grownBy wi row) (hb : Below wi.heap.size wi w3) : w.grownBy w3 row :=
  ⟨hb.os.trans h.os, hb.tape.trans h.tape, hb.output.trans h.output, Nat.le_trans h.size hb.size, fun t ht hne => (hb.block t (Nat.lt_of_lt_of_le ht h.size)).trans (h.block t ht hne)⟩
theorem storeL {ops : Array Oper} {rest : List Oper} {o : Oper} {a : Act} {Q : Exit → Act → World → Prop} {W w0 : World} {base g n c : Nat} {ok : Nat → Prop} {xs : List S27} (hN : o.dst = none) (hgd : o.guard = none) (p x : Operand) (ho : o.op = .store 27 p x) (k : Nat) (y : S27) (o' : Nat)
    (haddr : a.eval p = .pointer (some ⟨g, o', none⟩)) (hoff : o' = k * 4) (hx : a.eval x = .agg #[.int .u64 y.f0.f0, .int .i64 y.f0.f1, .int .u64 y.f1, .int .i64 y.f2]) (HO : Kd.R k27 27 W base ok (.slice (some ⟨g, 0, none⟩) n c) xs) (hk : k < n) (HB : Below base w0 W)
    (h : ∀ w1, Kd.R k27 27 w1 base ok (.slice (some ⟨g, 0, none⟩) n c) (xs.set k y) → Below base w0 w1 → W.grownBy w1 (some g) → wpList Try.prog ops Q rest a w1) : wpList Try.prog ops Q (o :: rest) a W := by
  have hC := (Kd.R_reads' HO).2.2
  have hn := (Kd.R_reads' HO).1
  obtain ⟨ad, e, hz0, hz1, hz2, hz3⟩ := at_T27 hC (k : Int) (by omega) (by omega)
  obtain rfl := Option.some.inj e
  rw [Int.toNat_natCast] at hz0 hz1 hz2 hz3
  simp only [Addr.add_lit, Nat.zero_add] at hz0 hz1 hz2 hz3
  refine Kd.R_store k27 (w0 := w0) base hN hgd 27 p x ho 27 (g := g) (n := n) (cap := c) (o' := o') (k : Int) 0 xs y (.agg (encL y).toArray) (encL y) (encL (rd_T27 xs (k : Int))) ok (fun _ => False) haddr (by rw [hoff, Int.toNat_natCast]; rfl) hx rfl sizeL (encL_one y) HO (by omega) (by omega) rfl ?_ (Nat.le_refl 4) (M_L _ _ _ y) (fun _ h => h.elim) HB ?_
  · intro j u hu
    rw [Int.toNat_natCast]
    rcases j with _ | _ | _ | _ | j
    · cases hu; exact hz0
    · cases hu; exact hz1
    · cases hu; exact hz2
    · cases hu; exact hz3
    · simp [encL] at hu
  · intro w1 h1 h2 h3
    rw [Int.toNat_natCast] at h1
    exact h w1 h1 h2 h3
theorem run_clear_rows {P : Program} (w : World) (t e ty : TypeId) (z : Value) (ht : P.underlying t = some (.slice e)) (hv : (zeroValue e).run P w = .ok z w) (g o n c : Nat) (h1 : ∀ q ∈ (Builtin.zeroCells z.cells n).toList, q.oneCell' = true) (hn : 0 < n) (cur : Array Value) (hh : w.heap[g]? = some (.cells cur e (0, 0)))
    (hfit : o + (Builtin.zeroCells z.cells n).size ≤ cur.size) : (Builtin.clear_ #[t] ty #[.slice (some ⟨g, o, none⟩) n c]).run P w = .ok (.tuple #[]) (w.setCells g o (Builtin.zeroCells z.cells n).toList) := by
  have hst := run_storeCells_cells (P := P) g o (Builtin.zeroCells z.cells n).toList 0 w (fun j hj => by rw [cell_of_row w g _ cur e (0, 0) hh]; rw [Array.length_toList] at hj; simp; omega) (fun j _ => blk_frozen hh _) h1
  simp only [Nat.add_zero] at hst
  obtain ⟨m, rfl⟩ : ∃ m, n = m + 1 := ⟨n - 1, by omega⟩
  simp [Builtin.clear_, run_underlying ht, hv, hst]
theorem clear_tail {α : Type} {d : Kd α} {e g n c base : Nat} {w : World} {ok : Nat → Prop} {xs : List α} (h : d.R e w base ok (.slice (some ⟨g, 0, none⟩) n c) xs) (m : Nat) (hm : m ≤ n) (vs : List Value) (hvs : vs.length = (n - m) * d.sz) :
    d.R e (w.setCells g (m * d.sz) vs) base ok (.slice (some ⟨g, 0, none⟩) m c) (xs.take m) ∧ w.grownBy (w.setCells g (m * d.sz) vs) (some g) ∧ ∃ cur, w.heap[g]? = some (.cells cur e (0, 0)) ∧ m * d.sz + vs.length ≤ cur.size := by
  have hn : n = xs.length := (Kd.R_reads' h).1
  obtain ⟨h0, inner, hown, hr⟩ := Kd.R_take h (m := m) (by omega)
  obtain ⟨_, _, ⟨_, hown1⟩, _⟩ := h
  rcases hown1 with ⟨he, _⟩ | ⟨g1, cap1, cur1, he1, _, hh1, hnc1, _, hcs1, _⟩
  · cases he
  injection he1 with a1 a2 a3
  injection a1 with a1
  injection a1 with a1
  subst a1; subst a3
  have hfit : m * d.sz + vs.length ≤ cur1.size := by
    rw [hvs, ← Nat.add_mul, show m + (n - m) = n by omega, hcs1]
    exact Nat.mul_le_mul_right _ (by omega)
  obtain ⟨cur', hc1, hc2, hc3⟩ := setCells_row vs (m * d.sz) w cur1 hh1 hfit
  obtain ⟨o1, o2, o3, o4⟩ := setCells_same g vs (m * d.sz) w
  have hfar : ∀ k, k ≠ g → (w.setCells g (m * d.sz) vs).heap[k]? = w.heap[k]? := fun k hk => setCells_far vs _ k hk
  refine ⟨⟨h0, inner, ⟨hown.1, ?_⟩, hr.imp_ fun _ _ hp => d.M_move (fun k hk => hfar k fun he => hk.2 (by rw [he]; rfl)) hp⟩, ⟨o1, o2, o3, Nat.le_of_eq o4.symm, fun k _ hk => hfar k fun he => hk (by rw [he])⟩, cur1, hh1, hfit⟩
  rcases hown.2 with ⟨he, _⟩ | ⟨g2, cap2, cur2, he2, hb2, hh2, hnc2, hcm2, hcs2, htk2⟩
  · cases he
  injection he2 with a1 a2 a3
  injection a1 with a1
  injection a1 with a1
  subst a1; subst a3
  rw [hh1] at hh2
  injection hh2 with hh2
  injection hh2 with hh2
  subst hh2
  have hlt : (xs.take m).length = m := by rw [List.length_take]; omega
  rw [hlt] at hnc2 htk2 ⊢
  refine .inr ⟨g, c, cur', rfl, hb2, hc1, hnc2, hcm2, by rw [hc2]; exact hcs2, ?_⟩
  rw [hc3, ← htk2, List.append_assoc, List.take_append_of_le_length (by rw [List.length_take, Array.length_toList]; omega), List.take_take, Nat.min_self]
def zeroL : Value := .agg #[.int .u64 0, .int .i64 0, .int .u64 0, .int .i64 0]
theorem zeroL_run (w : World) : (zeroValue 27).run Try.prog w = .ok zeroL w := by
  obtain ⟨i, hi, he⟩ := Option.map_eq_some_iff.1 info27
  simp only [Prod.mk.injEq] at he
  simp [zeroValue, typeInfo, hi, he.1]
  rfl
theorem zeroL_size (n : Nat) : (Builtin.zeroCells zeroL.cells n).size = n * 4 := by
  simp only [Builtin.zeroCells, Array.size_map, Array.size_range]
  rfl
theorem zeroL_one (n : Nat) : ∀ q ∈ (Builtin.zeroCells zeroL.cells n).toList, q.oneCell' = true := by
  intro q hq
  simp only [Builtin.zeroCells, Array.toList_map, List.mem_map] at hq
  obtain ⟨i, _, rfl⟩ := hq
  have hm : i % zeroL.cells.size < 4 := Nat.mod_lt _ (by decide)
  generalize i % zeroL.cells.size = t at hm
  rcases t with _ | _ | _ | _ | t
  · rfl
  · rfl
  · rfl
  · rfl
  · omega
theorem inv_take {d dk : Array S27} {k : Nat} (h : Lib.CompInv d d.size k dk) : dk.toList.take k = Lib.compactUpTo d d.size := by
  have h1 := h.size
  have h2 := h.lt
  refine List.ext_getElem? fun j => ?_
  by_cases hj : j < k
  · rw [h.low j hj, List.getElem?_take, if_pos hj, Array.getElem?_toList, getElem!_pos dk j (by omega), Array.getElem?_eq_getElem]
  · rw [List.getElem?_eq_none (by rw [List.length_take]; omega), List.getElem?_eq_none (by rw [h.len]; omega)]
set_option maxHeartbeats 2000000 in
set_option maxRecDepth 100000 in
theorem compactFuncL (v : Value) (xs : List S27) (w : World) (base : Nat) (ok : Nat → Prop) (hR : Kd.R k27 27 w base ok v xs) (hlen : xs.length < 4398046511104) :
    Calls Try.prog 79 #[v, .func (.func 82) #[] #[]] w fun e w' => ∃ v', e = .returned v' ∧ Kd.R k27 27 w' base ok v' (Lib.compact xs) ∧ w.grownBy w' v.ownBlock := by
  obtain ⟨A, c, rfl⟩ := Kd.R_slice hR
  have HR := Aside0.mk hR
  clear hR
  have HL := Aside0.mk hlen
  clear hlen
  by_cases h2 : xs.length < 2
  · go_enter Try.func79, Try.ntmps79
    go_wp2
    go_ret
    exact ⟨_, rfl, by rw [Lib.compact_all xs fun j hj => Lib.keeps_lt_one _ j (by omega)]; exact HR.out, World.grownBy.refl _ _⟩
  · obtain ⟨g, rfl⟩ : ∃ g, A = some ⟨g, 0, none⟩ := by
      obtain ⟨_, inner, ho, _⟩ := HR.out
      rcases ho.2 with ⟨he, h0⟩ | ⟨g, cap, cur, he, _⟩
      · omega
      · injection he with he
        exact ⟨g, he⟩
    have hC0 := (Kd.R_reads' HR.out).2.2
    have HNC := Aside0.mk (Kd.R_reads' HR.out).2.1
    have HBS := Aside0.mk (show base ≤ w.heap.size by
      obtain ⟨_, inner, ho, _⟩ := HR.out
      have := ho.lt g rfl
      omega)
    have HBG := Aside0.mk (Kd.R_base HR.out)
    have HC := Aside0.mk hC0
    clear hC0
    have mixed : Try.prog.follows Departure.mixedOrders = true := by kernel_rfl
    go_enter Try.func79, Try.ntmps79
    go_wp2
    go_loopg [5] xs.length (fun g_ s5 wr => ∃ k : Nat, 1 ≤ k ∧ k ≤ xs.length ∧ xs.length - k ≤ g_ ∧ s5 = .int .i64 k ∧ Aside0 (Below w.heap.size w wr) ∧ Aside0 (∀ j, j < k → Lib.keeps xs.toArray j = true))
    case atStart => exact ⟨1, Nat.le_refl _, by omega, by omega, rfl, ⟨Below.refl _ _⟩, ⟨Lib.keeps_lt_one _⟩⟩
    case round =>
      obtain ⟨k, hk1, hk, hg, rfl, HB, HA⟩ := hrel
      by_cases hlt : k < xs.length
      · obtain ⟨ad, e, hx0, hx1, hx2, hx3⟩ := at_T27 (Kd.C_below HC.out HB.out) (k : Int) (by omega) (by omega)
        obtain rfl := Option.some.inj e
        obtain ⟨j, hj⟩ : ∃ j : Nat, k = j + 1 := ⟨k - 1, by omega⟩
        obtain ⟨ad, e, hy0, hy1, hy2, hy3⟩ := at_T27 (Kd.C_below HC.out HB.out) (j : Int) (by omega) (by omega)
        obtain rfl := Option.some.inj e
        rw [Int.toNat_natCast] at hx0 hx1 hx2 hx3 hy0 hy1 hy2 hy3
        have hwj : IntKind.i64.wrap ((k : Int) - 1) = (j : Int) := by have := HL.out; rw [IntKind.wrap_i64]; omega
        have hjl : (j : Int) < (xs.length : Int) := by omega
        have hnc := HNC.out
        have hck : ¬ (c = k) := by omega
        have hkc : k ≤ c := by omega
        have HE1 := Aside0.mk (show wrap64 ((k : Int) + 1) = ((k + 1 : Nat) : Int) by have := HL.out; unfold wrap64; omega)
        have HJ := Aside0.mk hj
        have HK := Aside0.mk (And.intro hk1 (And.intro hk hg))
        clear hj hk1 hk hg
        simp only [Addr.add_lit, Nat.zero_add] at hx0 hx1 hx2 hx3 hy0 hy1 hy2 hy3
        by_cases hq : rd_T27 xs (k : Int) = rd_T27 xs (j : Int)
        · have HQ := Aside0.mk hq
          have hqb : eqL (rd_T27 xs (k : Int)) (rd_T27 xs (j : Int)) = true := eqL_iff.2 hq
          clear hq
          go_wp2_with fail
          go_region_law_o (refine step_callV rfl (f := 82) Try.func82 (by kernel_rfl) rfl #[.agg (encL (rd_T27 xs (k : Int))).toArray, .agg (encL (rd_T27 xs (j : Int))).toArray] rfl (by simp [Act.eval]) (by simp [Act.eval, Act.put, encL]) ?_; refine (same1 (rd_T27 xs (k : Int)) (rd_T27 xs (j : Int)) _).mono ?_; rintro e w2 ⟨rfl, hb⟩; rw [hqb]; refine ⟨_, rfl, ?_⟩; have HB2 := Aside0.mk (show Below w.heap.size w w2 from below_step (by repeat (first | exact HB.out | apply below_drew1)) hb); clear hb)
          all_goals clear hqb hx0 hx1 hx2 hx3 hy0 hy1 hy2 hy3 hwj hjl
          all_goals go_wp2
          all_goals (
            go_loopg [5, 7] xs.length (fun g_ s5 s7 wi => ∃ (kk k2 : Nat) (dk : Array S27), s5 = .int .i64 kk ∧ s7 = .int .i64 k2 ∧ 1 ≤ k2 ∧ k + k2 ≤ xs.length ∧ xs.length - (k + k2) ≤ g_ ∧ Aside0 (Kd.R k27 27 wi base ok (.slice (some ⟨g, 0, none⟩) xs.length c) dk.toList) ∧ Aside0 (Below base w wi) ∧ Aside0 (w.grownBy wi (some g)) ∧ Aside0 (Lib.CompInv xs.toArray (k + k2) kk dk))
            case atStart => exact ⟨k, 1, xs.toArray, rfl, rfl, Nat.le_refl _, by omega, by omega, ⟨Kd.R_below HR.out HB2.out⟩, ⟨HB2.out.mono HBS.out⟩, ⟨⟨HB2.out.os, HB2.out.tape, HB2.out.output, HB2.out.size, fun t ht _ => HB2.out.block t ht⟩⟩, ⟨Lib.CompInv.start HA.out (Lib.keeps_neg (by have := HJ.out; omega) (by rw [← rd_at xs k, show k - 1 = j by have := HJ.out; omega, ← rd_at xs j]; exact HQ.out))⟩⟩
            case round =>
              obtain ⟨kk, k2, dk, rfl, rfl, h1, hle, hg2, HRn, HBn, HGn, HI⟩ := hrel
              have hdl : dk.toList.length = xs.length := by have := HI.out.size; simpa using this
              have hkk := HI.out.lt
              by_cases hlt2 : k + k2 < xs.length
              · have hCi := (Kd.R_reads' HRn.out).2.2
                obtain ⟨ad, e, hx0, hx1, hx2, hx3⟩ := at_T27 hCi ((k + k2 : Nat) : Int) (by omega) (by omega)
                obtain rfl := Option.some.inj e
                obtain ⟨j2, hj2⟩ : ∃ j2 : Nat, k2 = j2 + 1 := ⟨k2 - 1, by omega⟩
                obtain ⟨ad, e, hy0, hy1, hy2, hy3⟩ := at_T27 hCi ((k + j2 : Nat) : Int) (by omega) (by omega)
                obtain rfl := Option.some.inj e
                rw [Int.toNat_natCast, Nat.add_mul] at hx0 hx1 hx2 hx3 hy0 hy1 hy2 hy3
                have hwj : IntKind.i64.wrap ((k2 : Int) - 1) = (j2 : Int) := by have := HL.out; rw [IntKind.wrap_i64]; omega
                have hjl : (j2 : Int) < ((xs.length - k : Nat) : Int) := by omega
                have hkl : (k2 : Int) < ((xs.length - k : Nat) : Int) := by omega
                clear hCi
                simp only [Addr.add_lit, Nat.zero_add] at hx0 hx1 hx2 hx3 hy0 hy1 hy2 hy3
                have hkk2 : (kk : Int) < (xs.length : Int) := by omega
                have HJ2 := Aside0.mk hj2
                have HE2 := Aside0.mk (show wrap64 ((k2 : Int) + 1) = ((k2 + 1 : Nat) : Int) by have := HL.out; unfold wrap64; omega)
                have HE3 := Aside0.mk (show wrap64 ((kk : Int) + 1) = ((kk + 1 : Nat) : Int) by have := HL.out; unfold wrap64; omega)
                have HK2 := Aside0.mk (show 1 ≤ k2 ∧ k + k2 ≤ xs.length ∧ xs.length - (k + k2) ≤ gk ∧ kk < k + k2 ∧ k + k2 < xs.length from ⟨h1, hle, hg2, hkk, hlt2⟩)
                clear hj2 h1 hle hg2 hkk hlt2
                by_cases hq2 : rd_T27 dk.toList ((k + k2 : Nat) : Int) = rd_T27 dk.toList ((k + j2 : Nat) : Int)
                · have HQ2 := Aside0.mk hq2
                  have hqb2 : eqL (rd_T27 dk.toList ((k + k2 : Nat) : Int)) (rd_T27 dk.toList ((k + j2 : Nat) : Int)) = true := eqL_iff.2 hq2
                  clear hq2
                  go_wp2_with fail
                  go_region_law_o (refine step_callV rfl (f := 82) Try.func82 (by kernel_rfl) rfl #[.agg (encL (rd_T27 dk.toList ((k + k2 : Nat) : Int))).toArray, .agg (encL (rd_T27 dk.toList ((k + j2 : Nat) : Int))).toArray] rfl (by simp [Act.eval]) (by simp [Act.eval, Act.put, encL]) ?_; refine (same1 (rd_T27 dk.toList ((k + k2 : Nat) : Int)) (rd_T27 dk.toList ((k + j2 : Nat) : Int)) _).mono ?_; rintro e w3 ⟨rfl, hb⟩; rw [hqb2]; refine ⟨_, rfl, ?_⟩; have HB3 := Aside0.mk (show Below wr.heap.size wr w3 from below_step (by repeat (first | exact Below.refl _ _ | apply below_drew1)) hb); clear hb)
                  all_goals clear hqb2 hx0 hx1 hx2 hx3 hy0 hy1 hy2 hy3 hwj hjl
                  all_goals go_wp2
                  all_goals go_roundg (xs.length - (k + (k2 + 1)))
                  all_goals first
                    | (have := HK2.out; omega)
                    | exact ⟨kk, k2 + 1, dk, rfl, by rw [HE2.out], by omega, by have := HK2.out; omega, Nat.le_refl _, ⟨Kd.R_below HRn.out HB3.out⟩, ⟨HBn.out.trans (HB3.out.mono (Nat.le_trans HBS.out HGn.out.size))⟩, ⟨grown_step HGn.out HB3.out⟩, ⟨HI.out.skip (Lib.keeps_neg (by have := HK2.out; omega) (by rw [← HI.out.high (k + k2) (by have := HK2.out; omega), show k + k2 - 1 = k + j2 by have := HJ2.out; omega, ← HI.out.high (k + j2) (by have := HK2.out; have := HJ2.out; omega), ← rd_atA, ← rd_atA]; exact HQ2.out))⟩⟩
                · have HQ2 := Aside0.mk hq2
                  have hqb2 : eqL (rd_T27 dk.toList ((k + k2 : Nat) : Int)) (rd_T27 dk.toList ((k + j2 : Nat) : Int)) = false := by rw [← Bool.not_eq_true, eqL_iff]; exact hq2
                  clear hq2
                  go_wp2_with fail
                  go_region_law_o (refine step_callV rfl (f := 82) Try.func82 (by kernel_rfl) rfl #[.agg (encL (rd_T27 dk.toList ((k + k2 : Nat) : Int))).toArray, .agg (encL (rd_T27 dk.toList ((k + j2 : Nat) : Int))).toArray] rfl (by simp [Act.eval]) (by simp [Act.eval, Act.put, encL]) ?_; refine (same1 (rd_T27 dk.toList ((k + k2 : Nat) : Int)) (rd_T27 dk.toList ((k + j2 : Nat) : Int)) _).mono ?_; rintro e w3 ⟨rfl, hb⟩; rw [hqb2]; refine ⟨_, rfl, ?_⟩; have HB3 := Aside0.mk (show Below wr.heap.size wr w3 from below_step (by repeat (first | exact Below.refl _ _ | apply below_drew1)) hb); clear hb)
                  all_goals clear hqb2 hx0 hx1 hx2 hx3 hy0 hy1 hy2 hy3 hwj hjl
                  all_goals clear hkk2
                  all_goals (
                    have HR3 := Aside0.mk (Kd.R_below HRn.out HB3.out)
                    obtain ⟨ad, e, hx0, hx1, hx2, hx3⟩ := at_T27 (Kd.R_reads' HR3.out).2.2 ((k + k2 : Nat) : Int) (by omega) (by have := HK2.out; omega)
                    obtain rfl := Option.some.inj e
                    rw [Int.toNat_natCast, Nat.add_mul] at hx0 hx1 hx2 hx3
                    simp only [Addr.add_lit, Nat.zero_add] at hx0 hx1 hx2 hx3
                    obtain ⟨x, hgx⟩ : ∃ x, x = rd_T27 dk.toList ((k + k2 : Nat) : Int) := ⟨_, rfl⟩
                    rw [← hgx] at hx0 hx1 hx2 hx3
                    have HGX := Aside0.mk hgx
                    have hkl : (k2 : Int) < ((xs.length - k : Nat) : Int) := by have := HK2.out; omega
                    have hkk2 : (kk : Int) < (xs.length : Int) := by have := HK2.out; omega
                    clear hgx
                    go_wp2_with ((with_reducible refine gate_ (.store 27 (.tmp 56) (.tmp 55)) rfl ?_); refine storeL (w0 := w) rfl rfl (.tmp 56) (.tmp 55) rfl kk x (kk * 4) rfl rfl rfl HR3.out ?s3 ?s5 ?_; (case s3 => have := HK2.out; omega); (case s5 => exact HBn.out.trans (HB3.out.mono (Nat.le_trans HBS.out HGn.out.size))); intro w4 hR4 hB4 hG4; have HR4 := Aside0.mk hR4; have HB4 := Aside0.mk hB4; have HG4 := Aside0.mk hG4; clear hR4 hB4 hG4)
                    all_goals go_roundg (xs.length - (k + (k2 + 1)))
                    all_goals first
                      | (have := HK2.out; omega)
                      | exact ⟨kk + 1, k2 + 1, dk.setIfInBounds kk x, by rw [HE3.out], by rw [HE2.out], by omega, by have := HK2.out; omega, Nat.le_refl _, ⟨by have h4 := HR4.out; simpa using h4⟩, ⟨HB4.out⟩, ⟨(grown_step HGn.out HB3.out).trans HG4.out⟩, ⟨by
                          have e1 : x = xs.toArray[k + k2]! := by rw [HGX.out, rd_atA, HI.out.high (k + k2) (by have := HK2.out; omega)]
                          rw [e1]
                          refine HI.out.keep (by have := HK2.out; simpa using this.2.2.2.2) (Lib.keeps_pos ?_)
                          rw [← HI.out.high (k + k2) (by have := HK2.out; omega), show k + k2 - 1 = k + j2 by have := HJ2.out; omega, ← HI.out.high (k + j2) (by have := HK2.out; have := HJ2.out; omega), ← rd_atA, ← rd_atA]
                          exact HQ2.out⟩⟩)
              · have hend : k + k2 = xs.length := by omega
                obtain ⟨hRt, hGt, cur, hh, hfit⟩ := clear_tail HRn.out kk (by omega) (Builtin.zeroCells zeroL.cells (xs.length - kk)).toList (by rw [Array.length_toList, zeroL_size]; rfl)
                rw [Array.length_toList] at hfit
                have hcl : ∀ ty, (Builtin.clear_ #[41] ty #[.slice (some ⟨g, kk * 4, none⟩) (xs.length - kk) (c - kk)]).run Try.prog wr = .ok (.tuple #[]) (wr.setCells g (kk * 4) (Builtin.zeroCells zeroL.cells (xs.length - kk)).toList) :=
                  fun ty => run_clear_rows wr _ 27 ty zeroL Try.underlying41 (zeroL_run wr) g (kk * 4) (xs.length - kk) (c - kk) (zeroL_one _) (by omega) cur hh hfit
                have hck2 : ¬ (c = kk) := by omega
                have hkc2 : kk ≤ c := by omega
                have hkx : kk ≤ xs.length := by omega
                have hnk : ¬ ((k2 : Int) < ((xs.length - k : Nat) : Int)) := by omega
                have e4 : k27.sz = 4 := rfl
                rw [e4] at hRt hGt
                generalize (Builtin.zeroCells zeroL.cells (xs.length - kk)).toList = vs at hRt hGt hcl
                have HRt := Aside0.mk hRt
                have HGt := Aside0.mk hGt
                have HEND := Aside0.mk hend
                clear hRt hGt hh hfit hend h1 hle hg2 hkk hlt2 hdl hck hkc hnc
                go_wp2
                go_ret
                refine ⟨_, rfl, ?_, HGn.out.trans HGt.out⟩
                have hI := HI.out
                rw [HEND.out] at hI
                have e1 := inv_take (d := xs.toArray) (by simpa using hI)
                have e2 : Lib.compact xs = dk.toList.take kk := by rw [e1]; simp [Lib.compact]
                rw [e2]
                exact HRt.out)
        · have HQ := Aside0.mk hq
          have hqb : eqL (rd_T27 xs (k : Int)) (rd_T27 xs (j : Int)) = false := by rw [← Bool.not_eq_true, eqL_iff]; exact hq
          clear hq
          go_wp2_with fail
          go_region_law_o (refine step_callV rfl (f := 82) Try.func82 (by kernel_rfl) rfl #[.agg (encL (rd_T27 xs (k : Int))).toArray, .agg (encL (rd_T27 xs (j : Int))).toArray] rfl (by simp [Act.eval]) (by simp [Act.eval, Act.put, encL]) ?_; refine (same1 (rd_T27 xs (k : Int)) (rd_T27 xs (j : Int)) _).mono ?_; rintro e w2 ⟨rfl, hb⟩; rw [hqb]; refine ⟨_, rfl, ?_⟩; have HB2 := Aside0.mk (show Below w.heap.size w w2 from below_step (by repeat (first | exact HB.out | apply below_drew1)) hb); clear hb)
          all_goals clear hqb hx0 hx1 hx2 hx3 hy0 hy1 hy2 hy3 hwj hjl
          all_goals go_wp2
          all_goals go_roundg (xs.length - (k + 1))
          all_goals first
            | (have := HK.out; omega)
            | exact ⟨k + 1, by omega, by omega, Nat.le_refl _, by rw [HE1.out], HB2, ⟨fun t ht => by
                rcases Nat.lt_or_ge t k with h | h
                · exact HA.out t h
                · obtain rfl : t = k := by omega
                  exact Lib.keeps_pos (by rw [← rd_at xs t, show t - 1 = j by have := HJ.out; omega, ← rd_at xs j]; exact HQ.out)⟩⟩
      · obtain rfl : k = xs.length := by omega
        go_wp2
        go_ret
        exact ⟨_, rfl, by rw [Lib.compact_all xs HA.out]; exact Kd.R_below HR.out HB.out, ⟨HB.out.os, HB.out.tape, HB.out.output, HB.out.size, fun t ht _ => HB.out.block t ht⟩⟩
end Go.Proofs.Ytioooiflpabngaa.PAll

namespace Go.Proofs.Ytioooiflpabngaa.PAll
open Go.RowKit Go.Sort Go.Proofs.YtioooiflpabngaaW.PrintWords Go.Proofs.YtioooiflpabngaaW.PrintLast Go.Proofs.YtioooiflpabngaaW.PrintMore
set_option linter.unusedVariables false
set_option linter.unusedSimpArgs false

theorem collectL (Bs : Nat) (A : Option Addr) (cap : Nat) (zs : List S27) (w : World) (hlen : zs.length < 4398046511104) (HC : Kd.C k27 w A zs.length zs) (hBs : w.cell? ⟨Bs, 0, none⟩ = some (.slice A zs.length cap)) :
    Calls Try.prog 114 #[.func (.func 116) #[] #[.pointer (some ⟨Bs, 0, none⟩)]] w fun e w' => ∃ v, e = .returned v ∧ Kd.R k27 27 w' w.heap.size (fun _ => True) v zs ∧ Below w.heap.size w w' := by
  have HA := Aside0.mk (appendSeqL Bs A cap zs w hlen HC hBs)
  clear HC hBs
  go_enter Try.func114, Try.ntmps114
  go_wp2_with (go_at_call 128; refine HA.out.mono ?_; rintro e w2 ⟨v, rfl, hR, hb⟩; have HR := Aside0.mk hR; have HB := Aside0.mk hb; clear hR hb)
  go_ret
  exact ⟨_, rfl, HR.out, HB.out⟩
theorem below_grown {w w1 : World} {base : Nat} {α : Type} {d : Kd α} {e : Nat} {ok : Nat → Prop} {v : Value} {xs : List α} (hR : d.R e w base ok v xs) (hg : w.grownBy w1 v.ownBlock) (hb : base ≤ w.heap.size) : Below base w w1 :=
  (Below.refl _ _).grown hg hb (Kd.R_base hR)
theorem sortedFuncL (Bs : Nat) (A : Option Addr) (cap : Nat) (zs : List S27) (w : World) (hlen : zs.length < 4398046511104) (HC : Kd.C k27 w A zs.length zs) (hBs : w.cell? ⟨Bs, 0, none⟩ = some (.slice A zs.length cap)) :
    Calls Try.prog 80 #[.func (.func 116) #[] #[.pointer (some ⟨Bs, 0, none⟩)], .func (.func 42) #[] #[]] w fun e w' => ∃ v, e = .returned v ∧ Kd.R k27 27 w' w.heap.size (fun _ => True) v (sortedL zs) ∧ Below w.heap.size w w' := by
  have HA := Aside0.mk (collectL Bs A cap zs w hlen HC hBs)
  have HL := Aside0.mk hlen
  clear HC hBs hlen
  go_enter Try.func80, Try.ntmps80
  go_wp2_with (first | (go_at_call 114; refine HA.out.mono ?_; rintro e w2 ⟨v, rfl, hR, hb⟩; have HR := Aside0.mk hR; have HB := Aside0.mk hb; clear hR hb) | (go_at_call 115; refine (sortFuncL v zs _ w.heap.size (fun _ => True) HR.out HL.out).mono ?_; rintro e w3 ⟨rfl, hR3, hg3⟩; have HR3 := Aside0.mk hR3; have HG3 := Aside0.mk hg3; clear hR3 hg3))
  go_ret
  exact ⟨_, rfl, HR3.out, HB.out.trans (below_grown HR.out HG3.out HB.out.size)⟩
theorem label_Sort_calls (A0 : Option Addr) (c0 : Nat) (l0 : List S27) (w : World) (hr0 : Kd.C k27 w A0 l0.length l0) (hlen : l0.length < 4398046511104) :
    Calls Try.prog 35 #[.slice A0 l0.length c0] w fun e w' => ∃ v0_ : Value, e = .returned (v0_) ∧ Kd.R k27 27 w' w.heap.size (fun _ => True) v0_ (Lib.compact (sortedL l0)) ∧ Below w.heap.size w w' := by
  have HC := Aside0.mk hr0
  have HL := Aside0.mk hlen
  clear hr0 hlen
  go_enter Try.func35, Try.ntmps35
  go_wp2_with (first
    | (go_at_call 81; refine (valuesL A0 l0.length c0 _).mono ?_; rintro e w1 ⟨rfl, rfl⟩)
    | (go_at_call 80; refine (sortedFuncL w.heap.size A0 c0 l0 _ HL.out (Kd.C_alloc HC.out _) (by simp)).mono ?_; rintro e w2 ⟨v, rfl, hR, hb⟩; have HR := Aside0.mk hR; have HB := Aside0.mk hb; clear hR hb)
    | (go_at_call 79; refine (compactFuncL v (sortedL l0) _ _ (fun _ => True) HR.out (by rw [sortedL_length]; exact HL.out)).mono ?_; rintro e w3 ⟨v3, rfl, hR3, hg3⟩; have HR3 := Aside0.mk hR3; have HG3 := Aside0.mk hg3; clear hR3 hg3))
  go_ret
  refine ⟨_, rfl, ?_, ?_⟩
  · exact Kd.R_lower HR3.out (by simp)
  · exact ((Below.refl _ w).alloc (Nat.le_refl _) _).trans ((HB.out.mono (by simp)).trans (below_grown (Kd.R_lower HR.out (show w.heap.size ≤ _ by simp)) HG3.out (Nat.le_trans (by simp) HB.out.size)))
theorem mem_compact (zs : List S27) (x : S27) : x ∈ Lib.compact zs ↔ x ∈ zs := by
  unfold Lib.compact Lib.compactUpTo
  simp only [List.mem_map, List.mem_filter, List.mem_range]
  constructor
  · rintro ⟨i, ⟨hi, _⟩, rfl⟩
    simp [hi]
  · intro hx
    obtain ⟨i, hi, rfl⟩ := List.getElem_of_mem hx
    induction i with
    | zero => exact ⟨0, ⟨hi, Lib.keeps_lt_one _ 0 (by omega)⟩, by simp [hi]⟩
    | succ i ih =>
      by_cases hk : Lib.keeps zs.toArray (i + 1) = true
      · exact ⟨i + 1, ⟨hi, hk⟩, by simp [hi]⟩
      · have hi2 : i < zs.length := by omega
        have e : zs[i + 1] = zs[i] := by
          simp only [Lib.keeps, decide_eq_true_eq, not_or, Decidable.not_not] at hk
          have h2 := hk.2
          simpa [hi, hi2] using h2
        rw [e]
        exact ih hi2 (List.getElem_mem _)
theorem compact_rise {zs : List S27} (h : zs.Pairwise fun x y => ¬ ltL y x) : RiseL (Lib.compact zs) := by
  unfold Lib.compact Lib.compactUpTo RiseL
  refine List.pairwise_map.2 (List.Pairwise.imp_of_mem (fun {i j} hi hj hij => ?_) ((List.pairwise_lt_range (n := zs.length)).filter _))
  simp only [List.mem_filter, List.mem_range] at hi hj
  have hk := hj.2
  simp only [Lib.keeps, decide_eq_true_eq] at hk
  rcases hk with hk | hk
  · omega
  have hjl := hj.1
  have hil := hi.1
  have hj1 : j - 1 < zs.length := by omega
  have hp := List.pairwise_iff_getElem.1 h
  have e0 : zs.toArray[i]! = zs[i] := by simp [hil]
  have e1 : zs.toArray[j]! = zs[j] := by simp [hjl]
  have e2 : zs.toArray[j - 1]! = zs[j - 1] := by simp [hj1]
  rw [e1, e2] at hk
  rw [e0, e1]
  have h1 : ltL zs[j - 1] zs[j] := by
    rcases ltL_total zs[j - 1] zs[j] with a | a | a
    · exact a
    · exact absurd a.symm hk
    · exact absurd a (hp (j - 1) j hj1 hjl (by omega))
  rcases Nat.lt_or_ge i (j - 1) with hlt | hge
  · rcases ltL_total zs[i] zs[j - 1] with a | a | a
    · exact ltL_trans a h1
    · rw [a]; exact h1
    · exact absurd a (hp i (j - 1) hil hj1 hlt)
  · have : i = j - 1 := by omega
    subst this
    exact h1
theorem sortedL_pairwise (l : List S27) : (sortedL l).Pairwise fun x y => ¬ ltL y x := by
  unfold sortedL
  have := List.pairwise_mergeSort (le := fun x y => !(ltOf cmpL) y x) (fun a b c h1 h2 => by
    simp only [ltOf, Bool.not_eq_true', decide_eq_false_iff_not] at *
    rw [cmpL_neg] at *
    intro h3
    rcases ltL_total a b with h | h | h
    · rcases ltL_total b c with k | k | k
      · exact ltL_irrefl _ (ltL_trans h3 (ltL_trans h k))
      · subst k; exact h1 h3
      · exact h2 k
    · subst h; exact h2 h3
    · exact h1 h) (fun a b => by
    simp only [ltOf, Bool.or_eq_true, Bool.not_eq_true', decide_eq_false_iff_not]
    rw [cmpL_neg, cmpL_neg]
    rcases ltL_total a b with h | h | h
    · exact .inl fun k => ltL_irrefl _ (ltL_trans h k)
    · subst h; exact .inl (ltL_irrefl _)
    · exact .inr fun k => ltL_irrefl _ (ltL_trans h k)) l
  refine this.imp fun {x y} h => ?_
  simp only [ltOf, Bool.not_eq_true', decide_eq_false_iff_not] at h
  rwa [cmpL_neg] at h
theorem compact_sorted (l : List S27) : Lib.compact (sortedL l) = sortL l :=
  riseL_ext (compact_rise (sortedL_pairwise l)) (sortL_rise l) fun x => by
    rw [mem_compact, mem_sortL]
    unfold sortedL
    exact List.mem_mergeSort
theorem label_Sort.calls (A0 : Option Addr) (c0 : Nat) (l0 : List S27) (r : List S27) (w : World) (hr0 : Kd.C k27 w A0 l0.length l0) (hc0 : l0.length ≤ c0) (h : label_Sort.f l0 = some r) :
    Calls Try.prog 35 #[.slice A0 l0.length c0] w fun e w' => ∃ v0_ : Value, e = .returned (v0_) ∧ Kd.R k27 27 w' w.heap.size (fun _ => True) v0_ r ∧ Below w.heap.size w w' := by
  obtain ⟨hl, rfl⟩ := of_if_some h
  rw [← compact_sorted]
  exact label_Sort_calls A0 c0 l0 w hr0 hl
end Go.Proofs.Ytioooiflpabngaa.PAll

namespace Go.Proofs.Ytioooiflpabngaa.PAll
open Go.RowKit Go.Sort Go.Proofs.YtioooiflpabngaaW.PrintWords Go.Proofs.YtioooiflpabngaaW.PrintLast Go.Proofs.YtioooiflpabngaaW.PrintMore
set_option linter.unusedVariables false
set_option linter.unusedSimpArgs false

def keyV (x : S27) : Value := .agg #[.int .u64 x.f0.f0, .int .i64 x.f0.f1, .int .u64 x.f1, .int .i64 x.f2]
theorem key_equal (x y : S27) (w : World) : (Op.equal 27 (keyV x) (keyV y)).run Try.prog w = .ok (eqL x y) w := by
  unfold Op.equal
  exact eqA27 9997 w _ _ _ _ _ _ _ _
theorem find_asking (x : S27) (w : World) : ∀ (es : List MapEntry) (i : Nat), (∀ e ∈ es, ∃ y, e.key = keyV y) →
    ((Instr.findAsking 27 (keyV x) es i).run Try.prog w = .ok none w ∧ ∀ e ∈ es, e.key ≠ keyV x) ∨
    ∃ j e, (Instr.findAsking 27 (keyV x) es i).run Try.prog w = .ok (some (i + j, e.val)) w ∧ es[j]? = some e ∧ e.key = keyV x
  | [], i, _ => .inl ⟨by simp [Instr.findAsking], by simp⟩
  | e :: es, i, hall => by
    obtain ⟨y, hy⟩ := hall e (by simp)
    have hr := key_equal x y w
    rw [← hy] at hr
    cases he : eqL x y with
    | false =>
      rw [he] at hr
      have hne : e.key ≠ keyV x := fun h => by
        rw [hy] at h
        simp only [keyV, Value.agg.injEq] at h
        have : x = y := by
          simp only [List.toArray_inj, Array.mk.injEq, List.cons.injEq, Value.int.injEq, true_and, and_true] at h
          obtain ⟨h1, h2, h3, h4⟩ := h
          exact (extL ⟨h1, h2, h3, h4⟩).symm
        rw [eqL_iff.2 this] at he
        cases he
      rcases find_asking x w es (i + 1) (fun y hy => hall y (by simp [hy])) with ⟨h1, h2⟩ | ⟨j, e', h1, h2, h3⟩
      · left
        refine ⟨by simp [Instr.findAsking, hr, h1], fun y hy => ?_⟩
        rcases List.mem_cons.1 hy with rfl | hy
        · exact hne
        · exact h2 y hy
      · right
        exact ⟨j + 1, e', by simp [Instr.findAsking, hr, h1, Nat.add_assoc, Nat.add_comm 1 j], by simpa using h2, h3⟩
    | true =>
      rw [he] at hr
      right
      exact ⟨0, e, by simp [Instr.findAsking, hr], rfl, by rw [hy, eqL_iff.1 he]⟩
theorem find_key (x : S27) (w : World) (es : List MapEntry) (hall : ∀ e ∈ es, ∃ y, e.key = keyV y) :
    ((Instr.findKey 27 (keyV x) es).run Try.prog w = .ok none w ∧ ∀ e ∈ es, e.key ≠ keyV x) ∨
    ∃ j e, (Instr.findKey 27 (keyV x) es).run Try.prog w = .ok (some (j, e.val)) w ∧ es[j]? = some e ∧ e.key = keyV x := by
  cases es with
  | nil => exact .inl ⟨by simp [Instr.findKey, Instr.findNow, run_underlying Try.underlying27], by simp⟩
  | cons e es =>
    have hn : ∀ fs, Instr.findNow (.struct fs) (keyV x) (e :: es) 0 = none := fun fs => by simp [Instr.findNow, Instr.sameNow]
    rcases find_asking x w (e :: es) 0 hall with ⟨h1, h2⟩ | ⟨j, e', h1, h2, h3⟩
    · exact .inl ⟨by simp [Instr.findKey, run_underlying Try.underlying27, hn, h1], h2⟩
    · exact .inr ⟨j, e', by simp [Instr.findKey, run_underlying Try.underlying27, hn, h1], h2, h3⟩
theorem check_leaf (em : Bool) (n : Nat) (t : TypeId) (k k' : IntKind) (ht : Try.prog.underlying t = some (.int k)) (a : Int) (w : World) : (Instr.checkKey em (n + 1) t (.int k' a)).run Try.prog w = .ok () w := by
  simp [Instr.checkKey, run_underlying ht]
theorem check_view (em : Bool) (n : Nat) (a b : Int) (w : World) : (Instr.checkKey em (n + 2) 25 (.agg #[.int .u64 a, .int .i64 b])).run Try.prog w = .ok () w := by
  rw [Instr.checkKey]
  simp only [run_underlying Try.underlying25, Sem.run_bind, Result.andThen_ok]
  go_simp
  simp [check_leaf em n 23 .u64 .u64 Try.underlying23, check_leaf em n 3 .i64 .i64 Try.underlying3, Result.andThen]
theorem check_key (em : Bool) (x : S27) (w : World) : (Instr.checkKey em 10000 27 (keyV x)).run Try.prog w = .ok () w := by
  show (Instr.checkKey em (9997 + 2 + 1) 27 (keyV x)).run Try.prog w = .ok () w
  unfold keyV
  rw [Instr.checkKey]
  simp only [run_underlying Try.underlying27, Sem.run_bind, Result.andThen_ok]
  go_simp
  simp [check_leaf em 9998 23 .u64 .u64 Try.underlying23, check_leaf em 9998 3 .i64 .i64 Try.underlying3, check_view em 9997, Result.andThen]
theorem zero_bool (w : World) : (zeroValue 4).run Try.prog w = .ok (.bool false) w := by
  kernel_rfl
/-- Block b is a map that holds true at just these labels. -/
def SetL (W : World) (b : Nat) (ys : List S27) : Prop := ∃ es clock, W.heap[b]? = some (.map es clock) ∧ (∀ e ∈ es.toList, ∃ y ∈ ys, e.key = keyV y ∧ e.val = .bool true) ∧ ∀ y ∈ ys, ∃ e ∈ es.toList, e.key = keyV y
theorem keyV_inj {x y : S27} (h : keyV x = keyV y) : x = y := by
  simp only [keyV, Value.agg.injEq] at h
  simp only [List.toArray_inj, Array.mk.injEq, List.cons.injEq, Value.int.injEq, true_and, and_true] at h
  obtain ⟨h1, h2, h3, h4⟩ := h
  exact extL ⟨h1, h2, h3, h4⟩
theorem set_has {W : World} {b : Nat} {ys : List S27} (h : SetL W b ys) (x : S27) : (Instr.lookup 100 (.map (some b)) (keyV x) false).run Try.prog W = .ok (.bool (memL x ys)) W := by
  obtain ⟨es, clock, hb, h1, h2⟩ := h
  rcases find_key x W es.toList (fun e he => by obtain ⟨y, _, h3, _⟩ := h1 e he; exact ⟨y, h3⟩) with ⟨hr, hne⟩ | ⟨j, e, hr, hj, hk⟩
  · have hm : memL x ys = false := by
      cases hc : memL x ys with
      | false => rfl
      | true =>
        obtain ⟨y, hy, he⟩ := List.any_eq_true.1 hc
        obtain ⟨e, he2, he3⟩ := h2 y hy
        rw [eqL_iff.1 he] at he3
        exact absurd he3 (hne e he2)
    rw [hm]
    simp [Instr.lookup, run_underlying Try.underlying100, MapKept.run_getObj_map hb, check_key, hr, zero_bool, Result.andThen]
  · obtain ⟨y, hy, h3, h4⟩ := h1 e (List.mem_of_getElem? hj)
    have hm : memL x ys = true := List.any_eq_true.2 ⟨y, hy, eqL_iff.2 (keyV_inj (h3.symm.trans hk))⟩
    rw [hm]
    simp [Instr.lookup, run_underlying Try.underlying100, MapKept.run_getObj_map hb, check_key, hr, h4, Result.andThen]
theorem set_put {W : World} {b : Nat} {ys : List S27} (h : SetL W b ys) (x : S27) : ∃ W1, (Instr.mapUpdate 100 (.map (some b)) (keyV x) (.bool true)).run Try.prog W = .ok () W1 ∧ SetL W1 b (ys ++ [x]) ∧ W.grownBy W1 (some b) := by
  obtain ⟨es, clock, hb, h1, h2⟩ := h
  rcases find_key x W es.toList (fun e he => by obtain ⟨y, _, h3, _⟩ := h1 e he; exact ⟨y, h3⟩) with ⟨hr, hne⟩ | ⟨j, e, hr, hj, hk⟩
  · refine ⟨ChangeMaps.setBlock W b (.map (es.push { key := keyV x, val := .bool true, born := clock }) (clock + 1)), by simp [Instr.mapUpdate, run_underlying Try.underlying100, MapKept.run_getObj_map hb, check_key, hr, MapKept.run_setObj_map _ hb, Result.andThen, ChangeMaps.setBlock], ⟨_, _, ChangeMaps.heap_setBlock_same hb _, ?_, ?_⟩, ⟨rfl, rfl, rfl, by simp [ChangeMaps.setBlock], fun i _ hi => ChangeMaps.heap_setBlock_other hb _ (fun e => hi (by rw [e]))⟩⟩
    · intro e he
      simp only [Array.toList_push, List.mem_append, List.mem_singleton] at he
      rcases he with he | rfl
      · obtain ⟨y, hy, h3⟩ := h1 e he
        exact ⟨y, List.mem_append_left _ hy, h3⟩
      · exact ⟨x, by simp, rfl, rfl⟩
    · intro y hy
      simp only [Array.toList_push, List.mem_append, List.mem_singleton] at hy ⊢
      rcases hy with hy | rfl
      · obtain ⟨e, he, h3⟩ := h2 y hy
        exact ⟨e, .inl he, h3⟩
      · exact ⟨_, .inr rfl, rfl⟩
  · have hst : (Instr.keyThatStays (keyV x) (keyV x)).run Try.prog W = .ok (keyV x) W := by simp [Instr.keyThatStays, keyV, Instr.sameBits]
    have hj2 : es[j]? = some e := by simpa using hj
    refine ⟨ChangeMaps.setBlock W b (.map (es.modify j fun e => { e with key := keyV x, val := .bool true }) clock), by simp [Instr.mapUpdate, run_underlying Try.underlying100, MapKept.run_getObj_map hb, check_key, hr, hj2, hk, hst, MapKept.run_setObj_map _ hb, Result.andThen, ChangeMaps.setBlock], ⟨_, _, ChangeMaps.heap_setBlock_same hb _, ?_, ?_⟩, ⟨rfl, rfl, rfl, by simp [ChangeMaps.setBlock], fun i _ hi => ChangeMaps.heap_setBlock_other hb _ (fun e => hi (by rw [e]))⟩⟩
    · intro e' he
      obtain ⟨i, hi, rfl⟩ := List.getElem_of_mem he
      simp only [Array.length_toList, Array.size_modify] at hi
      have he1 : es[i] ∈ es.toList := by simp
      obtain ⟨y, hy, h3, h4⟩ := h1 es[i] he1
      simp only [Array.getElem_toList, Array.getElem_modify]
      split
      · exact ⟨x, by simp, rfl, rfl⟩
      · exact ⟨y, List.mem_append_left _ hy, h3, h4⟩
    · intro y hy
      have hy2 : y ∈ ys := by
        rcases List.mem_append.1 hy with hy | hy
        · exact hy
        · rw [List.mem_singleton] at hy
          subst hy
          obtain ⟨z, hz, h3, _⟩ := h1 e (List.mem_of_getElem? hj)
          rw [← keyV_inj (h3.symm.trans hk)]
          exact hz
      obtain ⟨e0, he0, h3⟩ := h2 y hy2
      obtain ⟨i, hi, rfl⟩ := List.getElem_of_mem he0
      have hi2 : i < es.size := by simpa using hi
      refine ⟨(es.modify j fun e => { e with key := keyV x, val := .bool true })[i]'(by simpa using hi2), by rw [← Array.getElem_toList]; exact List.getElem_mem _, ?_⟩
      rw [Array.getElem_modify]
      split
      · rename_i hij
        subst hij
        have : es[j] = e := by rw [Array.getElem?_eq_getElem hi2] at hj2; exact Option.some.inj hj2
        show keyV x = keyV y
        rw [← hk, ← h3, Array.getElem_toList, this]
      · simpa using h3
theorem SetL.kept {w w' : World} {b : Nat} {ys : List S27} {row : Option Nat} (h : SetL w b ys) (hg : w.grownBy w' row) (hne : some b ≠ row) : SetL w' b ys := by
  obtain ⟨es, clock, hb, h1, h2⟩ := h
  exact ⟨es, clock, (hg.block b (blk_lt hb) hne).trans hb, h1, h2⟩
theorem SetL.lt {w : World} {b : Nat} {ys : List S27} (h : SetL w b ys) : b < w.heap.size := by
  obtain ⟨es, clock, hb, _⟩ := h
  exact blk_lt hb
theorem SetL.below {w w' : World} {b : Nat} {ys : List S27} (h : SetL w b ys) (hb : Below w.heap.size w w') : SetL w' b ys := by
  have hlt := h.lt
  obtain ⟨es, clock, hh, h1, h2⟩ := h
  exact ⟨es, clock, (hb.block b hlt).trans hh, h1, h2⟩
theorem SetL.alloc {w : World} {b : Nat} {ys : List S27} (h : SetL w b ys) (o : Obj) : SetL (w.alloc o) b ys := h.below (below_alloc (Below.refl _ _) o)
theorem SetL.made (w : World) : SetL (w.alloc (.map #[] 0)) w.heap.size [] := ⟨#[], 0, heap_alloc_new w _, by simp, by simp⟩
section
variable {ops : Array Oper} {rest : List Oper} {o : Oper} {a : Act} {Q : Exit → Act → World → Prop}
theorem wpList_put {w : World} (hg : o.guard = none) (m x v : Operand) (hop : o.op = Op.mapUpdate 100 m x v) {b : Nat} {ys : List S27} (y : S27) (hm : a.eval m = .map (some b)) (hx : a.eval x = keyV y) (hv : a.eval v = .bool true) (h : SetL w b ys)
    (hK : ∀ w1, SetL w1 b (ys ++ [y]) → w.grownBy w1 (some b) → wpList Try.prog ops Q rest (a.put o.dst undef) w1) : wpList Try.prog ops Q (o :: rest) a w := by
  refine wpList_plain hg fun K' hK' => ?_
  obtain ⟨w', hrun, r1, r2⟩ := set_put h y
  unfold Oper.wp
  simp [execOp, hop, hm, hx, hv, hrun, Result.andThen]
  exact hK' _ _ (hK w' r1 r2)
theorem wpList_has {w : World} (hg : o.guard = none) (m x : Operand) (hop : o.op = Op.lookup 100 m x false) {b : Nat} {ys : List S27} (y : S27) (hm : a.eval m = .map (some b)) (hx : a.eval x = keyV y) (h : SetL w b ys)
    (hK : wpList Try.prog ops Q rest (a.put o.dst (.bool (memL y ys))) w) : wpList Try.prog ops Q (o :: rest) a w := by
  refine wpList_plain hg fun K' hK' => ?_
  have hrun := set_has h y
  unfold Oper.wp
  simp [execOp, hop, hm, hx, hrun, Result.andThen]
  exact hK' _ _ hK
end
end Go.Proofs.Ytioooiflpabngaa.PAll

namespace Go.Proofs.Ytioooiflpabngaa.PAll
open Go.RowKit Go.Proofs.YtioooiflpabngaaW.PrintWords Go.Proofs.YtioooiflpabngaaW.PrintLast Go.Proofs.YtioooiflpabngaaW.PrintMore
set_option linter.unusedVariables false
set_option linter.unusedSimpArgs false

theorem C_none {α : Type} {d : Kd α} {w : World} {xs : List α} (h : Kd.C d w none xs.length xs) : xs = [] := by
  rcases Nat.eq_zero_or_pos xs.length with h0 | h0
  · exact List.eq_nil_of_length_eq_zero h0
  · obtain ⟨ad, e, _⟩ := h.2.2 h0
    cases e

theorem R_empty {α : Type} (d : Kd α) (e : Nat) (W : World) (base : Nat) (hb : base ≤ W.heap.size) : d.R e (W.alloc (.cells #[] e)) base (fun _ => True) (.slice (some ⟨W.heap.size, 0, none⟩) 0 0) [] := by
  refine ⟨fun _ _ => trivial, [], ?_, Reps.none _ _⟩
  have h2 := World.ownsRow_lit (base := base) (e := e) (size := d.sz) W #[] 0 hb (by simp [maxLen]) (by simp)
  simpa using h2

set_option maxHeartbeats 8000000 in
set_option maxRecDepth 100000 in
theorem bytes_Clone.calls (A0 : Option Addr) (c0 : Nat) (l0 : List Int) (r : List Int) (w : World) (hr0 : Kd.C (Kd.int .u8) w A0 l0.length l0) (hc0 : l0.length ≤ c0) (h : bytes_Clone.f l0 = some r) :
    Calls Try.prog 72 #[.slice A0 l0.length c0] w fun e w' => ∃ v0_ : Value, e = .returned (v0_) ∧ Kd.R (Kd.int .u8) 5 w' w.heap.size (fun _ => True) v0_ r ∧ Below w.heap.size w w' := by
  obtain ⟨hl, rfl⟩ := of_if_some h
  clear h
  have HL := Aside0.mk hl
  clear hl
  have HC0 := Aside0.mk hc0
  clear hc0
  have he := fun W : World => Lib.run_eql_slice_nil (P := Try.prog) W 30 5 A0 l0.length c0 0 0 Try.underlying30
  rcases A0 with _ | ad
  · obtain rfl := C_none hr0
    have he2 : ∀ W : World, (binOp .eql 30 (.slice none 0 c0) (.slice none 0 0)).run Try.prog W = .ok (.bool true) W := fun W => he W
    clear he hr0
    go_enter Try.func72, Try.ntmps72
    go_wp2
    go_ret
    exact ⟨_, rfl, Kd.R_nil _ _ _ _ _, Below.refl _ _⟩
  · have HR0 := Aside0.mk hr0
    clear hr0
    have he2 : ∀ W : World, (binOp .eql 30 (.slice (some ad) l0.length c0) (.slice none 0 0)).run Try.prog W = .ok (.bool false) W := fun W => he W
    clear he
    go_enter Try.func72, Try.ntmps72
    go_wp2_with ((with_reducible refine gate_builtin (b := .append) (xs := #[.tmp 5, .tmp 6]) rfl ?_); at_builtin; refine Kd.R_append_rows (Kd.int .u8) (w0 := w) w.heap.size rfl (.tmp 5) (.tmp 6) 30 5 (.int .u8 0) 1 rfl Try.underlying30 info5 rfl (by decide) (by omega) (.slice (some ⟨w.heap.size, 0, none⟩) 0 0) ([] : List Int) l0 _ _ _ (fun _ => True) (fun _ => False) rfl rfl ?aO ?aR (fun _ _ h => h) (fun _ h => h.elim) ?aF ?aB ?aS ?aL ?_; (case aR => exact Kd.C_alloc HR0.out _); (case aB => exact below_alloc (Below.refl _ _) _); (case aF => exact (fun _ _ => trivial)); (case aO => exact R_empty _ _ _ _ (Nat.le_refl _)); (case aS => simp); (case aL => have := HL.out; simp; omega); intro v481 w5 ho hb hg hat; clear hg hat)
    go_ret
    exact ⟨_, rfl, by simpa using ho, hb⟩
set_option maxHeartbeats 8000000 in
set_option maxRecDepth 100000 in
theorem slices_Clone_Label.calls (A0 : Option Addr) (c0 : Nat) (l0 : List S27) (r : List S27) (w : World) (hr0 : Kd.C k27 w A0 l0.length l0) (hc0 : l0.length ≤ c0) (h : slices_Clone_Label.f l0 = some r) :
    Calls Try.prog 78 #[.slice A0 l0.length c0] w fun e w' => ∃ v0_ : Value, e = .returned (v0_) ∧ Kd.R k27 27 w' w.heap.size (fun _ => True) v0_ r ∧ Below w.heap.size w w' := by
  obtain ⟨hl, rfl⟩ := of_if_some h
  clear h
  have HL := Aside0.mk hl
  clear hl
  have HC0 := Aside0.mk hc0
  clear hc0
  have he := fun W : World => Lib.run_eql_slice_nil (P := Try.prog) W 41 27 A0 l0.length c0 0 0 Try.underlying41
  rcases A0 with _ | ad
  · obtain rfl := C_none hr0
    have he2 : ∀ W : World, (binOp .eql 41 (.slice none 0 c0) (.slice none 0 0)).run Try.prog W = .ok (.bool true) W := fun W => he W
    clear he hr0
    go_enter Try.func78, Try.ntmps78
    go_wp2
    go_ret
    exact ⟨_, rfl, Kd.R_nil _ _ _ _ _, Below.refl _ _⟩
  · have HR0 := Aside0.mk hr0
    clear hr0
    have he2 : ∀ W : World, (binOp .eql 41 (.slice (some ad) l0.length c0) (.slice none 0 0)).run Try.prog W = .ok (.bool false) W := fun W => he W
    clear he
    go_enter Try.func78, Try.ntmps78
    go_wp2_with ((with_reducible refine gate_builtin (b := .append) (xs := #[.tmp 5, .tmp 6]) rfl ?_); at_builtin; refine Kd.R_append_rows k27 (w0 := w) w.heap.size rfl (.tmp 5) (.tmp 6) 41 27 (.agg #[(.int .u64 0), (.int .i64 0), (.int .u64 0), (.int .i64 0)]) 32 rfl Try.underlying41 info27 rfl (by decide) (by omega) (.slice (some ⟨w.heap.size, 0, none⟩) 0 0) ([] : List S27) l0 _ _ _ (fun _ => True) (fun _ => False) rfl rfl ?aO ?aR (fun _ _ h => h) (fun _ h => h.elim) ?aF ?aB ?aS ?aL ?_; (case aR => exact Kd.C_alloc HR0.out _); (case aB => exact below_alloc (Below.refl _ _) _); (case aF => exact (fun _ _ => trivial)); (case aO => exact R_empty _ _ _ _ (Nat.le_refl _)); (case aS => simp); (case aL => have := HL.out; simp; omega); intro v481 w5 ho hb hg hat; clear hg hat)
    go_ret
    exact ⟨_, rfl, by simpa using ho, hb⟩
end Go.Proofs.Ytioooiflpabngaa.PAll

namespace Go.Proofs.Ytioooiflpabngaa.PAll
open Go.RowKit Go.Sort Go.Proofs.YtioooiflpabngaaW.PrintWords Go.Proofs.YtioooiflpabngaaW.PrintLast Go.Proofs.YtioooiflpabngaaW.PrintMore
set_option linter.unusedVariables false
set_option linter.unusedSimpArgs false

set_option maxHeartbeats 4000000 in
set_option maxRecDepth 100000 in
theorem behind_walk (A0 : Option Addr) (c0 : Nat) (l0 : List S27) (A1 : Option Addr) (c1 : Nat) (l1 : List S27) (w : World) (hr0 : Kd.C k27 w A0 l0.length l0) (hc0 : l0.length ≤ c0) (hr1 : Kd.C k27 w A1 l1.length l1) (hc1 : l1.length ≤ c1) (hlen : l0.length + l1.length < 4398046511104) :
    Calls Try.prog 34 #[.slice A0 l0.length c0, .slice A1 l1.length c1] w fun e w' => ∃ v0_ : Value, e = .returned (v0_) ∧ Kd.R k27 27 w' w.heap.size (fun _ => True) v0_ (behindL l0 l1) ∧ Below w.heap.size w w' := by
  have H0 := Aside0.mk hr0
  have H1 := Aside0.mk hr1
  have C0 := Aside0.mk hc0
  have C1 := Aside0.mk hc1
  have HL := Aside0.mk hlen
  clear hr0 hr1 hc0 hc1 hlen
  have hmm := @run_makeMap Try.prog
  go_enter Try.func34, Try.ntmps34
  go_wp2
  go_loopw [14] (fun i wr => ∃ k : Nat, k ≤ l0.length ∧ i = .int .i64 k ∧ Aside0 (SetL wr w.heap.size (l0.take k)) ∧ Aside0 (Below w.heap.size w wr))
    (fun i _ => l0.length - (intOf i).toNat)
  case atStart => exact ⟨0, Nat.zero_le _, rfl, ⟨SetL.made w⟩, ⟨(Below.refl _ _).alloc (Nat.le_refl _) _⟩⟩
  case round =>
    obtain ⟨k, hk, rfl, HS, HB⟩ := hrel
    by_cases hlt : k < l0.length
    · obtain ⟨ad, e, hx0, hx1, hx2, hx3⟩ := at_T27 (Kd.C_below H0.out HB.out) (k : Int) (by omega) (by omega)
      subst e
      rw [Int.toNat_natCast] at hx0 hx1 hx2 hx3
      have HK := Aside0.mk hk
      clear hk
      have hlt' : (k : Int) < (l0.length : Int) := by omega
      have hz2 := HL.out
      go_wp2_with (at_mapUpdate; refine wpList_put rfl (.tmp 18) (.tmp 19) (.const (.bool true)) rfl (rd_T27 l0 (k : Int)) rfl rfl rfl (HS.out.alloc _) ?_; intro w1 hs1 hg1; have HS1 := Aside0.mk hs1; have HG1 := Aside0.mk hg1; clear hs1 hg1)
      refine ⟨⟨k + 1, by omega, by simp, ⟨by rw [take_snocL _ _ hlt]; exact HS1.out⟩, ⟨(HB.out.alloc HB.out.size _).grown HG1.out (Nat.le_trans HB.out.size (by simp)) (fun r e => by cases e; exact Nat.le_refl _)⟩⟩, by simp [intOf]; omega⟩
    · obtain rfl : k = l0.length := by omega
      have HS2 := Aside0.mk (show SetL wr w.heap.size l0 by have := HS.out; rwa [List.take_length] at this)
      clear HS hk
      go_wp2_with (first
        | (go_at_call 78; refine (slices_Clone_Label.calls A0 c0 l0 l0 _ (Kd.C_below H0.out HB.out) C0.out (by unfold slices_Clone_Label.f; rw [if_pos (by have := HL.out; omega)])).mono ?_; rintro e w2 ⟨v, rfl, hR, hb⟩; have HRO := Aside0.mk hR; have HB2 := Aside0.mk hb; clear hR hb)
        | (go_at_call 35; refine (label_Sort.calls A1 c1 l1 (sortL l1) _ (Kd.C_below H1.out (HB.out.trans (HB2.out.mono HB.out.size))) C1.out (by unfold label_Sort.f; rw [if_pos (by have := HL.out; omega)])).mono ?_; rintro e w3 ⟨v3, rfl, hR, hb⟩; obtain ⟨A3, c3, rfl⟩ := Kd.R_slice hR; have HRS := Aside0.mk hR; have HB3 := Aside0.mk hb; clear hR hb))
      have hv2 : ∀ r, v.ownBlock = some r → wr.heap.size ≤ r ∧ r < w2.heap.size := by
        obtain ⟨_, inn, ho, _⟩ := HRO.out
        intro r hr
        have := ho.lt r hr
        omega
      have hv3 : ∀ r, (Value.slice A3 (sortL l1).length c3).ownBlock = some r → w2.heap.size ≤ r ∧ r < w3.heap.size := by
        obtain ⟨_, inn, ho, _⟩ := HRS.out
        intro r hr
        have := ho.lt r hr
        omega
      have hbl := HS2.out.lt
      have hs2 := HB2.out.size
      have hs3 := HB3.out.size
      have hs1 := HB.out.size
      obtain ⟨Ao, co, rfl⟩ := Kd.R_slice HRO.out
      have hout : Kd.R k27 27 w3 w.heap.size (fun r => r ≠ w.heap.size ∧ some r ≠ (Value.slice A3 (sortL l1).length c3).ownBlock) (.slice Ao l0.length co) l0 :=
        Kd.R_lower (Kd.R_below (Kd.R_mono (Kd.R_tight rfl HRO.out) (fun r hr => ⟨by have := hv2 r hr.symm; omega, fun e => by have h1 := hv2 r hr.symm; have h2 := hv3 r e.symm; omega⟩)) HB3.out) hs1
      have hsrt : Kd.R k27 27 w3 w.heap.size (fun r => some r = (Value.slice A3 (sortL l1).length c3).ownBlock) (.slice A3 (sortL l1).length c3) (sortL l1) :=
        Kd.R_lower (Kd.R_tight rfl HRS.out) (Nat.le_trans hs1 hs2)
      have hset : SetL w3 w.heap.size l0 := (HS2.out.below HB2.out).below HB3.out
      have hbw : Below w.heap.size w w3 := (HB.out.trans (HB2.out.mono hs1)).trans (HB3.out.mono (Nat.le_trans hs1 hs2))
      have HLS := Aside0.mk (show l0.length + (sortL l1).length < 4398046511104 from by have := sortL_length l1; have := HL.out; omega)
      clear HS2 HB HRO HB2 HRS HB3 hv2 hv3 hs2 hs3 hs1
      go_loopw [8, 26] (fun s8 s26 wr => ∃ (k : Nat) (Ao : Option Addr) (co : Nat), k ≤ (sortL l1).length ∧ s26 = .int .i64 k ∧ s8 = .slice Ao (l0 ++ ((sortL l1).take k).filter fun x => !memL x l0).length co ∧ Aside0 (SetL wr w.heap.size l0) ∧
          Aside0 (Kd.R k27 27 wr w.heap.size (fun r => r ≠ w.heap.size ∧ some r ≠ (Value.slice A3 (sortL l1).length c3).ownBlock) (.slice Ao (l0 ++ ((sortL l1).take k).filter fun x => !memL x l0).length co) (l0 ++ ((sortL l1).take k).filter fun x => !memL x l0)) ∧
          Aside0 (Kd.R k27 27 wr w.heap.size (fun r => some r = (Value.slice A3 (sortL l1).length c3).ownBlock) (.slice A3 (sortL l1).length c3) (sortL l1)) ∧ Aside0 (Below w.heap.size w wr))
        (fun _ i _ => (sortL l1).length - (intOf i).toNat)
      case atStart => exact ⟨0, Ao, co, Nat.zero_le _, rfl, by simp, ⟨hset⟩, ⟨by simpa using hout⟩, ⟨hsrt⟩, ⟨hbw⟩⟩
      case round =>
        obtain ⟨k, Ao, co, hk, rfl, rfl, HS, HO, HV, HB⟩ := hrel
        by_cases hlt : k < (sortL l1).length
        · generalize houts : (l0 ++ ((sortL l1).take k).filter fun x => !memL x l0) = outs at HO ⊢
          have HOU := Aside0.mk houts
          clear houts
          obtain ⟨ad, e, hx0, hx1, hx2, hx3⟩ := at_T27 (Kd.R_reads' HV.out).2.2 (k : Int) (by omega) (by omega)
          subst e
          rw [Int.toNat_natCast] at hx0 hx1 hx2 hx3
          have HK := Aside0.mk (And.intro hk hlt)
          have HBL := Aside0.mk HS.out.lt
          have HVB := Aside0.mk (show ∀ r, (Value.slice (some ad) (sortL l1).length c3).ownBlock = some r → r < wr.heap.size from by
            obtain ⟨_, inn, ho, _⟩ := HV.out
            intro r hr
            exact (ho.lt r hr).2)
          have hlt' : (k : Int) < ((sortL l1).length : Int) := by omega
          have hz2 := HLS.out
          clear hk
          cases hm : memL (rd_T27 (sortL l1) (k : Int)) l0 with
          | true =>
            have HM := Aside0.mk hm
            clear hm
            go_wp2_with (at_lookup; refine wpList_has rfl (.tmp 30) (.tmp 31) rfl (rd_T27 (sortL l1) (k : Int)) rfl rfl (HS.out.alloc _) ?_; rw [HM.out])
            have e5 : l0 ++ ((sortL l1).take (k + 1)).filter (fun x => !memL x l0) = outs := by
              rw [← HOU.out, take_snocL _ _ hlt, List.filter_append]
              simp [HM.out]
            refine ⟨⟨k + 1, Ao, co, by omega, by simp, ?_, ⟨HS.out.alloc _⟩, ⟨?_⟩, ⟨Kd.R_alloc HV.out _⟩, ⟨HB.out.alloc HB.out.size _⟩⟩, by simp [intOf]; omega⟩
            · rw [e5]
            · rw [e5]; exact Kd.R_alloc HO.out _
          | false =>
            have HM := Aside0.mk hm
            clear hm
            go_wp2_with (first
              | (at_lookup; refine wpList_has rfl (.tmp 30) (.tmp 31) rfl (rd_T27 (sortL l1) (k : Int)) rfl rfl (HS.out.alloc _) ?_; rw [HM.out])
              | (at_builtin; refine Kd.R_append k27 (w0 := w) w.heap.size rfl (.tmp 34) (.tmp 36) 41 27 (.agg #[(.int .u64 0), (.int .i64 0), (.int .u64 0), (.int .i64 0)]) 32 rfl Try.underlying41 info27 rfl (by decide) (by omega) (.slice Ao outs.length co) outs (rd_T27 (sortL l1) (k : Int)) (encL (rd_T27 (sortL l1) (k : Int))) (fun r => r ≠ w.heap.size ∧ some r ≠ (Value.slice (some ad) (sortL l1).length c3).ownBlock) (fun _ => False) rfl ?aX ?aP (fun _ hk => hk.elim) ?aF ?aO ?aB ?aS ?aL ?_; (case aX => simp [Act.eval]); (case aP => exact M_L _ _ _ _); (case aO => exact Kd.R_alloc HO.out _); (case aB => exact HB.out.alloc HB.out.size _); (case aF => intro r hr; have h1 := HBL.out; rw [World.size_alloc] at hr; exact ⟨by omega, fun e => by have := HVB.out r e.symm; omega⟩); (case aS => have := HB.out.size; rw [World.size_alloc]; omega); (case aL => have h1 := List.length_filter_le (fun x => !memL x l0) ((sortL l1).take k); have h2 := HLS.out; rw [List.length_take] at h1; rw [← HOU.out, List.length_append]; have h3 := HK.out; omega); intro v1 w5 ho hb hg hat; have HO5 := Aside0.mk ho; have HB5 := Aside0.mk hb; have HG5 := Aside0.mk hg; clear ho hb hg hat))
            have hne : ∀ r, (Value.slice Ao outs.length co).ownBlock = some r → r ≠ w.heap.size ∧ some r ≠ (Value.slice (some ad) (sortL l1).length c3).ownBlock := HO.out.1
            have e5 : l0 ++ ((sortL l1).take (k + 1)).filter (fun x => !memL x l0) = outs ++ [rd_T27 (sortL l1) (k : Int)] := by
              rw [← HOU.out, take_snocL _ _ hlt, List.filter_append, List.append_assoc]
              congr 2
              simp [HM.out]
            obtain ⟨A5, c5, rfl⟩ := Kd.R_slice HO5.out
            refine ⟨⟨k + 1, A5, c5, by omega, by simp, ?_, ⟨(HS.out.alloc _).kept HG5.out (fun e => (hne _ e.symm).1 rfl)⟩, ⟨?_⟩, ⟨Kd.R_grown (Kd.R_alloc HV.out _) HG5.out (fun r hr e => (hne r e.symm).2 hr)⟩, ⟨HB5.out⟩⟩, by simp [intOf]; omega⟩
            · rw [e5]
            · rw [e5]; exact HO5.out
        · obtain rfl : k = (sortL l1).length := by omega
          have HO2 := Aside0.mk HO.out
          go_wp2
          go_ret
          refine ⟨_, rfl, ?_, HB.out⟩
          rw [show behindL l0 l1 = l0 ++ ((sortL l1).take (sortL l1).length).filter (fun x => !memL x l0) from by rw [List.take_length]; rfl]
          exact Kd.R_mono HO.out (fun _ _ => trivial)
theorem label_Behind.calls (A0 : Option Addr) (c0 : Nat) (l0 : List S27) (A1 : Option Addr) (c1 : Nat) (l1 : List S27) (r : List S27) (w : World) (hr0 : Kd.C k27 w A0 l0.length l0) (hc0 : l0.length ≤ c0) (hr1 : Kd.C k27 w A1 l1.length l1) (hc1 : l1.length ≤ c1) (h : label_Behind.f l0 l1 = some r) :
    Calls Try.prog 34 #[.slice A0 l0.length c0, .slice A1 l1.length c1] w fun e w' => ∃ v0_ : Value, e = .returned (v0_) ∧ Kd.R k27 27 w' w.heap.size (fun _ => True) v0_ r ∧ Below w.heap.size w w' := by
  obtain ⟨hl, rfl⟩ := of_if_some h
  exact behind_walk A0 c0 l0 A1 c1 l1 w hr0 hc0 hr1 hc1 hl
end Go.Proofs.Ytioooiflpabngaa.PAll

namespace Go.Proofs.Ytioooiflpabngaa.PAll
open Go.RowKit Go.Proofs.YtioooiflpabngaaW.PrintWords Go.Proofs.YtioooiflpabngaaW.PrintLast Go.Proofs.YtioooiflpabngaaW.PrintMore
attribute [local go_sem] max2_int min2_int max_two min_two max_three min_three max_four min_four   -- for this text's walks alone
set_option linter.unusedVariables false
set_option linter.unusedSimpArgs false

/-! ### folkmootlaw05_of: function 77 -/
def folkmootlaw05_of.f (a0 : Int) : Option (Int × Int × Int × Int) := some (1, 0, a0, 0)
set_option maxHeartbeats 8000000 in
set_option maxRecDepth 100000 in
theorem folkmootlaw05_of.calls (a0 : Int) (r1 : Int) (r2 : Int) (r3 : Int) (r4 : Int) (w : World) (h : folkmootlaw05_of.f a0 = some (r1, r2, r3, r4)) :
    Calls Try.prog 77 #[.int .u64 a0] w fun e w' => e = .returned (.agg #[.int .u64 r1, .int .i64 r2, .int .u64 r3, .int .i64 r4]) ∧ Below w.heap.size w w' := by
  have hu27 := Try.underlying27
  have hu25 := Try.underlying25
  have HB := Aside0.mk (Below.refl w.heap.size w)
  have H : (some (1, 0, a0, 0)) = some (r1, r2, r3, r4) := h
  clear h
  simp only [Option.some.injEq, Prod.mk.injEq] at H
  obtain ⟨rfl, rfl, rfl, rfl⟩ := H
  go_enter Try.func77, Try.ntmps77
  go_wp2_with (first | ((with_reducible refine gate_dst (N := 2) rfl ?_); refine box_event ?hg (N := 2) ?hd (cs := #[.int .u64 0, .int .i64 0, .int .u64 0, .int .i64 0]) (t := 27) ?hr ?_; (case hd => rfl); (case hg => rfl); (case hr => first | (go_simp; done) | (go_simp; rfl)); intro gb345 hg w2 hbox hb; have n0_ := Aside0.mk (below_step (by repeat (first | (with_reducible first | exact HB.out | apply below_alloc | apply pw_below_drewN | apply below_drew1) | exact HB.out)) hb); have n1_ := Aside0.mk (hbox); have n2_ := Aside0.mk ((by rw [hg]; exact (below_size (by repeat (first | (with_reducible first | exact HB.out | apply below_alloc | apply pw_below_drewN | apply below_drew1) | exact HB.out))) : w.heap.size ≤ gb345)); have n3_ := Aside0.mk ((by rw [hg]; exact (below_size (by repeat (first | (with_reducible first | exact HB.out | apply below_alloc | apply pw_below_drewN | apply below_drew1) | exact HB.out))) : w.heap.size ≤ gb345)); clear HB; have HB := n0_; have BK345 := n1_; have GW345 := n2_; have GE345 := n3_; clear n0_ n1_ n2_ n3_; clear hb hbox hg; have hcz3_0 : w2.cell? ⟨gb345, 0, none⟩ = some (.int .u64 0) := (blk_cell BK345.out 0).trans rfl; have hcz3_1 : w2.cell? ⟨gb345, 1, none⟩ = some (.int .i64 0) := (blk_cell BK345.out 1).trans rfl; have hcz3_2 : w2.cell? ⟨gb345, 2, none⟩ = some (.int .u64 0) := (blk_cell BK345.out 2).trans rfl; have hcz3_3 : w2.cell? ⟨gb345, 3, none⟩ = some (.int .i64 0) := (blk_cell BK345.out 3).trans rfl; have hfz3_0 := blk_frozen BK345.out 0; have hfz3_1 := blk_frozen BK345.out 1; have hfz3_2 := blk_frozen BK345.out 2; have hfz3_3 := blk_frozen BK345.out 3))
  refine bodyPost_ret (results_cell_row rfl _ _ gb345 27 #[.int .u64 1, .int .i64 0, .int .u64 a0, .int .i64 0] (0, 0) _ rfl (by (with_reducible repeat (first | refine blk_drewN ?_ _ | refine blk_drew ?_ | refine blk_alloc ?_ _)); refine blk_put (cs := #[.int .u64 1, .int .i64 0, .int .u64 a0, .int .i64 0]) ?_ 3 _ rfl; (with_reducible repeat (first | refine blk_drewN ?_ _ | refine blk_drew ?_ | refine blk_alloc ?_ _)); refine blk_put (cs := #[.int .u64 1, .int .i64 0, .int .u64 0, .int .i64 0]) ?_ 2 _ rfl; (with_reducible repeat (first | refine blk_drewN ?_ _ | refine blk_drew ?_ | refine blk_alloc ?_ _)); refine blk_put (cs := #[.int .u64 1, .int .i64 0, .int .u64 0, .int .i64 0]) ?_ 1 _ rfl; (with_reducible repeat (first | refine blk_drewN ?_ _ | refine blk_drew ?_ | refine blk_alloc ?_ _)); refine blk_put (cs := #[.int .u64 0, .int .i64 0, .int .u64 0, .int .i64 0]) ?_ 0 _ rfl; (with_reducible repeat (first | refine blk_drewN ?_ _ | refine blk_drew ?_ | refine blk_alloc ?_ _)); exact BK345.out) Try.underlying27 rfl (by kernel_rfl)) rfl ?_
  exact ⟨by first | rfl | (simp [errW_none, errW_some] <;> rfl) | (simp [*, errW_none, errW_some] <;> rfl), by repeat (first | (with_reducible first | exact HB.out | apply below_alloc | apply pw_below_drewN | apply below_drew1 | refine below_set ?_ GE345.out) | exact HB.out)⟩

end Go.Proofs.Ytioooiflpabngaa.PAll

namespace Go.Proofs.Ytioooiflpabngaa.PAll
open Go.RowKit Go.Proofs.YtioooiflpabngaaW.PrintWords Go.Proofs.YtioooiflpabngaaW.PrintLast Go.Proofs.YtioooiflpabngaaW.PrintMore
set_option linter.unusedVariables false
set_option linter.unusedSimpArgs false
def folkmootlaw05_awake.f : Option Bool := some true
def of_ (n : Int) : S27 := ⟨⟨1, 0⟩, n, 0⟩
theorem of_call (n : Int) (w : World) : Calls Try.prog 77 #[.int .u64 n] w fun e w' => e = .returned (.agg #[.int .u64 1, .int .i64 0, .int .u64 n, .int .i64 0]) ∧ Below w.heap.size w w' :=
  folkmootlaw05_of.calls n 1 0 n 0 w rfl
theorem behind_four : label_Behind.f [of_ 2, of_ 1] [of_ 3, of_ 1, of_ 4, of_ 3] = some [of_ 2, of_ 1, of_ 3, of_ 4] := by kernel_rfl
theorem same_four : folkmootref05_Same.f 10 [of_ 2, of_ 1, of_ 3, of_ 4] [of_ 2, of_ 1, of_ 3, of_ 4] = some true := by kernel_rfl
set_option maxHeartbeats 8000000 in
set_option maxRecDepth 100000 in
theorem folkmootlaw05_awake.calls (r : Bool) (w : World) (h : folkmootlaw05_awake.f = some r) :
    Calls Try.prog 33 #[] w fun e w' => e = .returned (.bool r) ∧ Below w.heap.size w w' := by
  injection h with h
  subst h
  have HB := Aside0.mk (Below.refl w.heap.size w)
  go_enter Try.func33, Try.ntmps33
  go_wp2_with (first | (go_at_call 77; refine (of_call _ _).mono ?_; rintro e w' ⟨rfl, hb⟩; have B_ := Aside0.mk (below_step HB.out hb); clear HB; have HB := B_; clear B_; (try (have C_ := Aside0.mk (Kd.C_below H3.out hb); clear H3; have H3 := C_; clear C_)); (try (have C_ := Aside0.mk (Kd.C_below H8.out hb); clear H8; have H8 := C_; clear C_)); (try (have C_ := Aside0.mk (Kd.C_below H9.out hb); clear H9; have H9 := C_; clear C_)); (try (have C_ := Aside0.mk (Kd.C_below H14.out hb); clear H14; have H14 := C_; clear C_)); clear hb) | ((with_reducible refine gate_dst (N := 3) rfl ?_); refine Kd.R_lit k27 _ 27 ?hg (N := 3) ?hd (xs := [of_ 2, of_ 1]) (inner := [.int .u64 1, .int .i64 0, .int .u64 2, .int .i64 0, .int .u64 1, .int .i64 0, .int .u64 1, .int .i64 0]) (ok := fun _ => True) (okp := fun _ => True) ?hr ?hp (fun _ hk => hk) trivial (Below.refl _ _) (Nat.le_refl _) (by simp) ?_; (case hd => rfl); (case hg => rfl); (case hr => first | (go_simp; done) | (go_simp; rfl)); (case hp => exact (Reps.c4 (show Kd.M k27 _ _ _ (of_ 2) [.int .u64 1, .int .i64 0, .int .u64 2, .int .i64 0] from k27_mkM _ _ _ (of_ 2)) (Reps.c4 (show Kd.M k27 _ _ _ (of_ 1) [.int .u64 1, .int .i64 0, .int .u64 1, .int .i64 0] from k27_mkM _ _ _ (of_ 1)) (Reps.none _ _)))); intro v3 w3 ho3 hb hg_ hnew_; clear hg_ hnew_; have B_ := Aside0.mk (below_step HB.out hb); clear HB; have HB := B_; clear B_; (try (have C_ := Aside0.mk (Kd.C_below H3.out hb); clear H3; have H3 := C_; clear C_)); (try (have C_ := Aside0.mk (Kd.C_below H8.out hb); clear H8; have H8 := C_; clear C_)); (try (have C_ := Aside0.mk (Kd.C_below H9.out hb); clear H9; have H9 := C_; clear C_)); (try (have C_ := Aside0.mk (Kd.C_below H14.out hb); clear H14; have H14 := C_; clear C_)); clear hb; obtain ⟨A3, c3, e3, hl3, hC3⟩ := Kd.R_reads ho3; subst e3; have L3 := Aside0.mk hl3; have H3 := Aside0.mk hC3; clear ho3 hl3 hC3) | ((with_reducible refine gate_dst (N := 8) rfl ?_); refine Kd.R_lit k27 _ 27 ?hg (N := 8) ?hd (xs := [of_ 3, of_ 1, of_ 4, of_ 3]) (inner := [.int .u64 1, .int .i64 0, .int .u64 3, .int .i64 0, .int .u64 1, .int .i64 0, .int .u64 1, .int .i64 0, .int .u64 1, .int .i64 0, .int .u64 4, .int .i64 0, .int .u64 1, .int .i64 0, .int .u64 3, .int .i64 0]) (ok := fun _ => True) (okp := fun _ => True) ?hr ?hp (fun _ hk => hk) trivial (Below.refl _ _) (Nat.le_refl _) (by simp) ?_; (case hd => rfl); (case hg => rfl); (case hr => first | (go_simp; done) | (go_simp; rfl)); (case hp => exact (Reps.c4 (show Kd.M k27 _ _ _ (of_ 3) [.int .u64 1, .int .i64 0, .int .u64 3, .int .i64 0] from k27_mkM _ _ _ (of_ 3)) (Reps.c4 (show Kd.M k27 _ _ _ (of_ 1) [.int .u64 1, .int .i64 0, .int .u64 1, .int .i64 0] from k27_mkM _ _ _ (of_ 1)) (Reps.c4 (show Kd.M k27 _ _ _ (of_ 4) [.int .u64 1, .int .i64 0, .int .u64 4, .int .i64 0] from k27_mkM _ _ _ (of_ 4)) (Reps.c4 (show Kd.M k27 _ _ _ (of_ 3) [.int .u64 1, .int .i64 0, .int .u64 3, .int .i64 0] from k27_mkM _ _ _ (of_ 3)) (Reps.none _ _)))))); intro v8 w8 ho8 hb hg_ hnew_; clear hg_ hnew_; have B_ := Aside0.mk (below_step HB.out hb); clear HB; have HB := B_; clear B_; (try (have C_ := Aside0.mk (Kd.C_below H3.out hb); clear H3; have H3 := C_; clear C_)); (try (have C_ := Aside0.mk (Kd.C_below H8.out hb); clear H8; have H8 := C_; clear C_)); (try (have C_ := Aside0.mk (Kd.C_below H9.out hb); clear H9; have H9 := C_; clear C_)); (try (have C_ := Aside0.mk (Kd.C_below H14.out hb); clear H14; have H14 := C_; clear C_)); clear hb; obtain ⟨A8, c8, e8, hl8, hC8⟩ := Kd.R_reads ho8; subst e8; have L8 := Aside0.mk hl8; have H8 := Aside0.mk hC8; clear ho8 hl8 hC8) | ((with_reducible refine gate_dst (N := 14) rfl ?_); refine Kd.R_lit k27 _ 27 ?hg (N := 14) ?hd (xs := [of_ 2, of_ 1, of_ 3, of_ 4]) (inner := [.int .u64 1, .int .i64 0, .int .u64 2, .int .i64 0, .int .u64 1, .int .i64 0, .int .u64 1, .int .i64 0, .int .u64 1, .int .i64 0, .int .u64 3, .int .i64 0, .int .u64 1, .int .i64 0, .int .u64 4, .int .i64 0]) (ok := fun _ => True) (okp := fun _ => True) ?hr ?hp (fun _ hk => hk) trivial (Below.refl _ _) (Nat.le_refl _) (by simp) ?_; (case hd => rfl); (case hg => rfl); (case hr => first | (go_simp; done) | (go_simp; rfl)); (case hp => exact (Reps.c4 (show Kd.M k27 _ _ _ (of_ 2) [.int .u64 1, .int .i64 0, .int .u64 2, .int .i64 0] from k27_mkM _ _ _ (of_ 2)) (Reps.c4 (show Kd.M k27 _ _ _ (of_ 1) [.int .u64 1, .int .i64 0, .int .u64 1, .int .i64 0] from k27_mkM _ _ _ (of_ 1)) (Reps.c4 (show Kd.M k27 _ _ _ (of_ 3) [.int .u64 1, .int .i64 0, .int .u64 3, .int .i64 0] from k27_mkM _ _ _ (of_ 3)) (Reps.c4 (show Kd.M k27 _ _ _ (of_ 4) [.int .u64 1, .int .i64 0, .int .u64 4, .int .i64 0] from k27_mkM _ _ _ (of_ 4)) (Reps.none _ _)))))); intro v14 w14 ho14 hb hg_ hnew_; clear hg_ hnew_; have B_ := Aside0.mk (below_step HB.out hb); clear HB; have HB := B_; clear B_; (try (have C_ := Aside0.mk (Kd.C_below H3.out hb); clear H3; have H3 := C_; clear C_)); (try (have C_ := Aside0.mk (Kd.C_below H8.out hb); clear H8; have H8 := C_; clear C_)); (try (have C_ := Aside0.mk (Kd.C_below H9.out hb); clear H9; have H9 := C_; clear C_)); (try (have C_ := Aside0.mk (Kd.C_below H14.out hb); clear H14; have H14 := C_; clear C_)); clear hb; obtain ⟨A14, c14, e14, hl14, hC14⟩ := Kd.R_reads ho14; subst e14; have L14 := Aside0.mk hl14; have H14 := Aside0.mk hC14; clear ho14 hl14 hC14) | (go_at_call 34; refine (label_Behind.calls _ _ [of_ 2, of_ 1] _ _ [of_ 3, of_ 1, of_ 4, of_ 3] [of_ 2, of_ 1, of_ 3, of_ 4] _ H3.out L3.out H8.out L8.out behind_four).mono ?_; rintro e w' ⟨v9, rfl, ho9, hb⟩; have B_ := Aside0.mk (below_step HB.out hb); clear HB; have HB := B_; clear B_; (try (have C_ := Aside0.mk (Kd.C_below H3.out hb); clear H3; have H3 := C_; clear C_)); (try (have C_ := Aside0.mk (Kd.C_below H8.out hb); clear H8; have H8 := C_; clear C_)); (try (have C_ := Aside0.mk (Kd.C_below H9.out hb); clear H9; have H9 := C_; clear C_)); (try (have C_ := Aside0.mk (Kd.C_below H14.out hb); clear H14; have H14 := C_; clear C_)); clear hb; obtain ⟨A9, c9, e9, hl9, hC9⟩ := Kd.R_reads ho9; subst e9; have L9 := Aside0.mk hl9; have H9 := Aside0.mk hC9; clear ho9 hl9 hC9) | (go_at_call 30; refine (folkmootref05_Same.calls 10 _ _ [of_ 2, of_ 1, of_ 3, of_ 4] _ _ [of_ 2, of_ 1, of_ 3, of_ 4] true _ H9.out L9.out H14.out L14.out same_four).mono ?_; rintro e w' ⟨rfl, hd⟩; have hb := hd.below; have B_ := Aside0.mk (below_step HB.out hb); clear HB; have HB := B_; clear B_; (try (have C_ := Aside0.mk (Kd.C_below H3.out hb); clear H3; have H3 := C_; clear C_)); (try (have C_ := Aside0.mk (Kd.C_below H8.out hb); clear H8; have H8 := C_; clear C_)); (try (have C_ := Aside0.mk (Kd.C_below H9.out hb); clear H9; have H9 := C_; clear C_)); (try (have C_ := Aside0.mk (Kd.C_below H14.out hb); clear H14; have H14 := C_; clear C_)); clear hb))
  go_ret
  exact ⟨rfl, HB.out⟩
end Go.Proofs.Ytioooiflpabngaa.PAll

namespace Go.Proofs.Ytioooiflpabngaa.PAll
open Go.RowKit Go.Proofs.YtioooiflpabngaaW.PrintWords Go.Proofs.YtioooiflpabngaaW.PrintLast Go.Proofs.YtioooiflpabngaaW.PrintMore
attribute [local go_sem] max2_int min2_int max_two min_two max_three min_three max_four min_four   -- for this text's walks alone
set_option linter.unusedVariables false
set_option linter.unusedSimpArgs false

/-! ### folkmootlaw05_LabelKeeps: function 7 -/
mutual
def folkmootlaw05_LabelKeeps.j0 : Nat → List (S27) → List (S27) → Bool → Option (Bool)
  | 0, _, _, _ => none
  | k + 1, x0, x1, x20 => if x20 = true then ((folkmootlaw05_awake.f).bind fun t347 => (some t347)) else (if ([] : List (S27)).length + x0.length < 4398046511104 then ((some (([] : List (S27)) ++ x0 : List (S27))).bind fun y348 => (if ([] : List (S27)).length + x1.length < 4398046511104 then ((some (([] : List (S27)) ++ x1 : List (S27))).bind fun y351 => ((label_Behind.f y348 y351).bind fun t354 => ((label_Sort.f y351).bind fun t357 => ((folkmootref05_Same.f k y348 x0).bind fun t360 => (if t360 = true then ((folkmootref05_Same.f k y351 x1).bind fun t361 => (folkmootlaw05_LabelKeeps.j1 k x0 x1 y348 y351 t354 t357 (!t361))) else (folkmootlaw05_LabelKeeps.j1 k x0 x1 y348 y351 t354 t357 true)))))) else (none))) else (none))
def folkmootlaw05_LabelKeeps.j1 : Nat → List (S27) → List (S27) → List (S27) → List (S27) → List (S27) → List (S27) → Bool → Option (Bool)
  | 0, _, _, _, _, _, _, _ => none
  | k + 1, x0, x1, x5, x6, x7, x8, x42 => if x42 = true then (some false) else (folkmootlaw05_LabelKeeps.l0 k x0 x1 x5 x6 x7 x8 0)
def folkmootlaw05_LabelKeeps.l0 : Nat → List (S27) → List (S27) → List (S27) → List (S27) → List (S27) → List (S27) → Int → Option (Bool)
  | 0, _, _, _, _, _, _, _ => none
  | k + 1, x0, x1, x5, x6, x7, x8, x9 => if x9 < (x7.length : Int) then (if 0 ≤ x9 then (folkmootlaw05_LabelKeeps.l0 k x0 x1 x5 x6 (x7.set (x9 : Int).toNat (⟨(⟨(rd_T27 x7 x9).f0.f0, (rd_T27 x7 x9).f0.f1⟩ : S25), IntKind.u64.wrap (((rd_T27 x7 x9).f1) + 1), (rd_T27 x7 x9).f2⟩ : S27)) x8 (wrap64 (x9 + 1))) else (none)) else (folkmootlaw05_LabelKeeps.l1 k x0 x1 x5 x6 x8 0)
def folkmootlaw05_LabelKeeps.l1 : Nat → List (S27) → List (S27) → List (S27) → List (S27) → List (S27) → Int → Option (Bool)
  | 0, _, _, _, _, _, _ => none
  | k + 1, x0, x1, x5, x6, x8, x10 => if x10 < (x8.length : Int) then (if 0 ≤ x10 then (folkmootlaw05_LabelKeeps.l1 k x0 x1 x5 x6 (x8.set (x10 : Int).toNat (⟨(⟨(rd_T27 x8 x10).f0.f0, (rd_T27 x8 x10).f0.f1⟩ : S25), IntKind.u64.wrap (((rd_T27 x8 x10).f1) + 1), (rd_T27 x8 x10).f2⟩ : S27)) (wrap64 (x10 + 1))) else (none)) else ((folkmootref05_Same.f k x5 x0).bind fun t366 => (if t366 = true then ((folkmootref05_Same.f k x6 x1).bind fun t367 => (some t367)) else (some false)))
end
def folkmootlaw05_LabelKeeps.f (k : Nat) (l0 : List (S27)) (l1 : List (S27)) : Option (Bool) := (folkmootlaw05_awake.f).bind fun t346 => (if t346 = true then (folkmootlaw05_LabelKeeps.j0 k l0 l1 (decide ((wrap64 ((l0.length : Int) + (l1.length : Int))) > 100))) else (folkmootlaw05_LabelKeeps.j0 k l0 l1 true))
theorem folkmootlaw05_LabelKeeps.mono_l : ∀ k, (∀ y0 y1 y2, LeO (folkmootlaw05_LabelKeeps.j0 k y0 y1 y2) (folkmootlaw05_LabelKeeps.j0 (k + 1) y0 y1 y2)) ∧ (∀ y0 y1 y2 y3 y4 y5 y6, LeO (folkmootlaw05_LabelKeeps.j1 k y0 y1 y2 y3 y4 y5 y6) (folkmootlaw05_LabelKeeps.j1 (k + 1) y0 y1 y2 y3 y4 y5 y6)) ∧ (∀ y0 y1 y2 y3 y4 y5 y6, LeO (folkmootlaw05_LabelKeeps.l0 k y0 y1 y2 y3 y4 y5 y6) (folkmootlaw05_LabelKeeps.l0 (k + 1) y0 y1 y2 y3 y4 y5 y6)) ∧ (∀ y0 y1 y2 y3 y4 y5, LeO (folkmootlaw05_LabelKeeps.l1 k y0 y1 y2 y3 y4 y5) (folkmootlaw05_LabelKeeps.l1 (k + 1) y0 y1 y2 y3 y4 y5))
  | 0 => ⟨fun _ _ _ r h => by simp [folkmootlaw05_LabelKeeps.j0] at h, fun _ _ _ _ _ _ _ r h => by simp [folkmootlaw05_LabelKeeps.j1] at h, fun _ _ _ _ _ _ _ r h => by simp [folkmootlaw05_LabelKeeps.l0] at h, fun _ _ _ _ _ _ r h => by simp [folkmootlaw05_LabelKeeps.l1] at h⟩
  | k + 1 => by
    obtain ⟨ih0, ih1, ih2, ih3⟩ := folkmootlaw05_LabelKeeps.mono_l k
    refine ⟨?_, ?_, ?_, ?_⟩
    · intro y0 y1 y2
      unfold folkmootlaw05_LabelKeeps.j0
      repeat' first
      | (with_reducible exact ih0 _ _ _)
      | (with_reducible exact ih1 _ _ _ _ _ _ _)
      | (with_reducible exact ih2 _ _ _ _ _ _ _)
      | (with_reducible exact ih3 _ _ _ _ _ _)
      | (with_reducible exact folkmootref05_Same.mono _ _ _)
      | (with_reducible exact LeO.refl _)
      | (with_reducible exact LeO.none _)
      | (with_reducible refine LeO.ite ?_ ?_)
      | (with_reducible refine LeO.bind ?_ (fun _ => ?_))
      | exact ih0 _ _ _
      | exact ih1 _ _ _ _ _ _ _
      | exact ih2 _ _ _ _ _ _ _
      | exact ih3 _ _ _ _ _ _
      | exact folkmootref05_Same.mono _ _ _
      | exact LeO.none _
      | refine LeO.ite ?_ ?_
      | refine LeO.bind ?_ (fun _ => ?_)
    · intro y0 y1 y2 y3 y4 y5 y6
      unfold folkmootlaw05_LabelKeeps.j1
      repeat' first
      | (with_reducible exact ih0 _ _ _)
      | (with_reducible exact ih1 _ _ _ _ _ _ _)
      | (with_reducible exact ih2 _ _ _ _ _ _ _)
      | (with_reducible exact ih3 _ _ _ _ _ _)
      | (with_reducible exact folkmootref05_Same.mono _ _ _)
      | (with_reducible exact LeO.refl _)
      | (with_reducible exact LeO.none _)
      | (with_reducible refine LeO.ite ?_ ?_)
      | (with_reducible refine LeO.bind ?_ (fun _ => ?_))
      | exact ih0 _ _ _
      | exact ih1 _ _ _ _ _ _ _
      | exact ih2 _ _ _ _ _ _ _
      | exact ih3 _ _ _ _ _ _
      | exact folkmootref05_Same.mono _ _ _
      | exact LeO.none _
      | refine LeO.ite ?_ ?_
      | refine LeO.bind ?_ (fun _ => ?_)
    · intro y0 y1 y2 y3 y4 y5 y6
      unfold folkmootlaw05_LabelKeeps.l0
      repeat' first
      | (with_reducible exact ih0 _ _ _)
      | (with_reducible exact ih1 _ _ _ _ _ _ _)
      | (with_reducible exact ih2 _ _ _ _ _ _ _)
      | (with_reducible exact ih3 _ _ _ _ _ _)
      | (with_reducible exact folkmootref05_Same.mono _ _ _)
      | (with_reducible exact LeO.refl _)
      | (with_reducible exact LeO.none _)
      | (with_reducible refine LeO.ite ?_ ?_)
      | (with_reducible refine LeO.bind ?_ (fun _ => ?_))
      | exact ih0 _ _ _
      | exact ih1 _ _ _ _ _ _ _
      | exact ih2 _ _ _ _ _ _ _
      | exact ih3 _ _ _ _ _ _
      | exact folkmootref05_Same.mono _ _ _
      | exact LeO.none _
      | refine LeO.ite ?_ ?_
      | refine LeO.bind ?_ (fun _ => ?_)
    · intro y0 y1 y2 y3 y4 y5
      unfold folkmootlaw05_LabelKeeps.l1
      repeat' first
      | (with_reducible exact ih0 _ _ _)
      | (with_reducible exact ih1 _ _ _ _ _ _ _)
      | (with_reducible exact ih2 _ _ _ _ _ _ _)
      | (with_reducible exact ih3 _ _ _ _ _ _)
      | (with_reducible exact folkmootref05_Same.mono _ _ _)
      | (with_reducible exact LeO.refl _)
      | (with_reducible exact LeO.none _)
      | (with_reducible refine LeO.ite ?_ ?_)
      | (with_reducible refine LeO.bind ?_ (fun _ => ?_))
      | exact ih0 _ _ _
      | exact ih1 _ _ _ _ _ _ _
      | exact ih2 _ _ _ _ _ _ _
      | exact ih3 _ _ _ _ _ _
      | exact folkmootref05_Same.mono _ _ _
      | exact LeO.none _
      | refine LeO.ite ?_ ?_
      | refine LeO.bind ?_ (fun _ => ?_)
theorem folkmootlaw05_LabelKeeps.mono : ∀ a0 a1 k, LeO (folkmootlaw05_LabelKeeps.f k a0 a1) (folkmootlaw05_LabelKeeps.f (k + 1) a0 a1) := by
  intro a0 a1 k
  obtain ⟨ih0, ih1, ih2, ih3⟩ := folkmootlaw05_LabelKeeps.mono_l k
  unfold folkmootlaw05_LabelKeeps.f
  repeat' first
      | (with_reducible exact ih0 _ _ _)
      | (with_reducible exact ih1 _ _ _ _ _ _ _)
      | (with_reducible exact ih2 _ _ _ _ _ _ _)
      | (with_reducible exact ih3 _ _ _ _ _ _)
      | (with_reducible exact folkmootref05_Same.mono _ _ _)
      | (with_reducible exact LeO.refl _)
      | (with_reducible exact LeO.none _)
      | (with_reducible refine LeO.ite ?_ ?_)
      | (with_reducible refine LeO.bind ?_ (fun _ => ?_))
      | exact ih0 _ _ _
      | exact ih1 _ _ _ _ _ _ _
      | exact ih2 _ _ _ _ _ _ _
      | exact ih3 _ _ _ _ _ _
      | exact folkmootref05_Same.mono _ _ _
      | exact LeO.none _
      | refine LeO.ite ?_ ?_
      | refine LeO.bind ?_ (fun _ => ?_)
set_option maxHeartbeats 8000000 in
set_option maxRecDepth 100000 in
theorem folkmootlaw05_LabelKeeps.calls (k : Nat) (A0 : Option Addr) (c0 : Nat) (l0 : List (S27)) (A1 : Option Addr) (c1 : Nat) (l1 : List (S27)) (r : Bool) (w : World) (hr0 : Kd.C k27 w A0 l0.length l0) (hc0 : l0.length ≤ c0) (hr1 : Kd.C k27 w A1 l1.length l1) (hc1 : l1.length ≤ c1) (h : folkmootlaw05_LabelKeeps.f k l0 l1 = some r) :
    Calls Try.prog 7 #[.slice A0 l0.length c0, .slice A1 l1.length c1] w fun e w' => e = .returned (.bool r) ∧ Below w.heap.size w w' := by
  have HR0 := Aside0.mk hr0
  have HC0 := Aside0.mk hc0
  clear hr0 hc0
  have HR1 := Aside0.mk hr1
  have HC1 := Aside0.mk hc1
  clear hr1 hc1
  have HB := Aside0.mk (Below.refl w.heap.size w)
  have H : ((folkmootlaw05_awake.f).bind fun t346 => (if t346 = true then (folkmootlaw05_LabelKeeps.j0 k l0 l1 (decide ((wrap64 ((l0.length : Int) + (l1.length : Int))) > 100))) else (folkmootlaw05_LabelKeeps.j0 k l0 l1 true))) = some r := h
  clear h
  have HC3 := Aside0.mk H
  clear H
  go_enter Try.func7, Try.ntmps7
  go_upto_region 1 with (fail)
  go_cut [20] (fun v20 wc => ∃ (kq : Nat) (x20_2 : Bool), v20 = .bool x20_2 ∧ Aside0 (folkmootlaw05_LabelKeeps.j0 kq l0 l1 x20_2 = some r) ∧ Aside0 (kq ≤ k) ∧ Aside0 (Below w.heap.size w wc))
  case first =>
    have H := HC3.out
    clear HC3
    replace H := Option.bind_eq_some_iff.mp H
    obtain ⟨t346, A40, H⟩ := H
    replace H : (if t346 = true then (folkmootlaw05_LabelKeeps.j0 k l0 l1 (decide ((wrap64 ((l0.length : Int) + (l1.length : Int))) > 100))) else (folkmootlaw05_LabelKeeps.j0 k l0 l1 true)) = some r := H
    have A4 := Aside0.mk A40
    clear A40
    by_cases c5 : t346 = true
    · subst c5
      have H1 : (folkmootlaw05_LabelKeeps.j0 k l0 l1 (decide ((wrap64 ((l0.length : Int) + (l1.length : Int))) > 100))) = some r := by rw [if_pos rfl] at H; exact H
      clear H
      have H := H1
      clear H1
      have H' := Aside0.mk H
      clear H
      go_wp2_with (first | ((with_reducible refine gate_callee (f := 33) rfl ?_); refine goesL_ (some 11) rfl rfl Try.func33 (by kernel_rfl) rfl #[] rfl (by (try simp only [List.map_toArray, List.map_cons, List.map_nil]); first | done | rfl | (simp only [List.length_drop, List.length_take]; rfl)) ?_; (with_reducible refine (folkmootlaw05_awake.calls  true _ A4.out).mono ?_); rintro e w6 ⟨rfl, hb⟩; refine ⟨_, rfl, ?_⟩; have n0_ := Aside0.mk (below_step (by repeat (first | (with_reducible first | exact HB.out | apply below_alloc | apply pw_below_drewN | apply below_drew1) | exact HB.out)) hb); clear HB; have HB := n0_; clear n0_; (try clear hb); (try clear hb2); (try clear hk); (try clear hi)))
      go_meet
      case rel => exact ⟨_, (decide ((wrap64 ((l0.length : Int) + (l1.length : Int))) > 100)), (by first | rfl | (simp; done) | (simp [*]; done)), H', ⟨by first | omega | exact Nat.le_refl _⟩, ⟨by repeat (first | (with_reducible first | exact HB.out | apply below_alloc | apply pw_below_drewN | apply below_drew1) | exact HB.out)⟩⟩
    · replace c5 := Bool.eq_false_iff.mpr c5
      subst c5
      have H1 : (folkmootlaw05_LabelKeeps.j0 k l0 l1 true) = some r := by rw [if_neg (show ¬ (false = true) by decide)] at H; exact H
      clear H
      have H := H1
      clear H1
      have H' := Aside0.mk H
      clear H
      go_wp2_with (first | ((with_reducible refine gate_callee (f := 33) rfl ?_); refine goesL_ (some 11) rfl rfl Try.func33 (by kernel_rfl) rfl #[] rfl (by (try simp only [List.map_toArray, List.map_cons, List.map_nil]); first | done | rfl | (simp only [List.length_drop, List.length_take]; rfl)) ?_; (with_reducible refine (folkmootlaw05_awake.calls  false _ A4.out).mono ?_); rintro e w7 ⟨rfl, hb⟩; refine ⟨_, rfl, ?_⟩; have n0_ := Aside0.mk (below_step (by repeat (first | (with_reducible first | exact HB.out | apply below_alloc | apply pw_below_drewN | apply below_drew1) | exact HB.out)) hb); clear HB; have HB := n0_; clear n0_; (try clear hb); (try clear hb2); (try clear hk); (try clear hi)))
      go_meet
      case rel => exact ⟨_, (true), (by first | rfl | (simp; done) | (simp [*]; done)), H', ⟨by first | omega | exact Nat.le_refl _⟩, ⟨by repeat (first | (with_reducible first | exact HB.out | apply below_alloc | apply pw_below_drewN | apply below_drew1) | exact HB.out)⟩⟩
  case rest =>
    clear HC3
    try clear c1
    try clear p2
    try clear c3
    try clear c5
    try clear p6
    try clear c7
    obtain ⟨kq, x20_2, rfl, HA, HJ2, HB⟩ := hcut
    cases kq with
    | zero => exact absurd HA.out (by simp [folkmootlaw05_LabelKeeps.j0])
    | succ kj2 =>
      have H := HA.out
      clear HA
      simp only [folkmootlaw05_LabelKeeps.j0] at H
      by_cases c8 : x20_2 = true
      · subst c8
        have H1 : ((folkmootlaw05_awake.f).bind fun t347 => (some t347)) = some r := by rw [if_pos rfl] at H; exact H
        clear H
        have H := H1
        clear H1
        replace H := Option.bind_eq_some_iff.mp H
        obtain ⟨t347, A90, H⟩ := H
        replace H : (some t347) = some r := H
        have A9 := Aside0.mk A90
        clear A90
        obtain rfl := Option.some.inj H
        go_wp2_with (first | ((with_reducible refine gate_callee (f := 33) rfl ?_); refine goesL_ (some 21) rfl rfl Try.func33 (by kernel_rfl) rfl #[] rfl (by (try simp only [List.map_toArray, List.map_cons, List.map_nil]); first | done | rfl | (simp only [List.length_drop, List.length_take]; rfl)) ?_; (with_reducible refine (folkmootlaw05_awake.calls  t347 _ A9.out).mono ?_); rintro e w10 ⟨rfl, hb⟩; refine ⟨_, rfl, ?_⟩; have n0_ := Aside0.mk (below_step (by repeat (first | (with_reducible first | exact HB.out | apply below_alloc | apply pw_below_drewN | apply below_drew1) | exact HB.out)) hb); clear HB; have HB := n0_; clear n0_; (try clear hb); (try clear hb2); (try clear hk); (try clear hi)))
        go_ret
        exact ⟨by first | rfl | (simp [errW_none, errW_some] <;> rfl) | (simp [*, errW_none, errW_some] <;> rfl), by repeat (first | (with_reducible first | exact HB.out | apply below_alloc | apply pw_below_drewN | apply below_drew1) | exact HB.out)⟩
      · replace c8 := Bool.eq_false_iff.mpr c8
        subst c8
        have H1 : (if ([] : List (S27)).length + l0.length < 4398046511104 then ((some (([] : List (S27)) ++ l0 : List (S27))).bind fun y348 => (if ([] : List (S27)).length + l1.length < 4398046511104 then ((some (([] : List (S27)) ++ l1 : List (S27))).bind fun y351 => ((label_Behind.f y348 y351).bind fun t354 => ((label_Sort.f y351).bind fun t357 => ((folkmootref05_Same.f kj2 y348 l0).bind fun t360 => (if t360 = true then ((folkmootref05_Same.f kj2 y351 l1).bind fun t361 => (folkmootlaw05_LabelKeeps.j1 kj2 l0 l1 y348 y351 t354 t357 (!t361))) else (folkmootlaw05_LabelKeeps.j1 kj2 l0 l1 y348 y351 t354 t357 true)))))) else (none))) else (none)) = some r := by rw [if_neg (show ¬ (false = true) by decide)] at H; exact H
        clear H
        have H := H1
        clear H1
        by_cases c11 : ([] : List (S27)).length + l0.length < 4398046511104
        · rw [if_pos c11] at H
          have LMc11 := Aside0.mk c11
          clear c11
          obtain ⟨y348, hy348⟩ : ∃ y_ : List (S27), y_ = (([] : List (S27)) ++ l0) := ⟨_, rfl⟩
          replace H : (if ([] : List (S27)).length + l1.length < 4398046511104 then ((some (([] : List (S27)) ++ l1 : List (S27))).bind fun y351 => ((label_Behind.f y348 y351).bind fun t354 => ((label_Sort.f y351).bind fun t357 => ((folkmootref05_Same.f kj2 y348 l0).bind fun t360 => (if t360 = true then ((folkmootref05_Same.f kj2 y351 l1).bind fun t361 => (folkmootlaw05_LabelKeeps.j1 kj2 l0 l1 y348 y351 t354 t357 (!t361))) else (folkmootlaw05_LabelKeeps.j1 kj2 l0 l1 y348 y351 t354 t357 true)))))) else (none)) = some r := by first | (rw [hy348]; with_reducible exact H) | (have H2_ := (Option.bind_some _ _).symm.trans H; rw [hy348]; with_reducible exact H2_) | (have H2_ := (Option.bind_some _ _).symm.trans H; with_reducible exact H2_) | with_reducible exact H | (rw [hy348]; exact H) | exact H
          have Ny348 := Aside0.mk hy348
          clear hy348
          by_cases c12 : ([] : List (S27)).length + l1.length < 4398046511104
          · rw [if_pos c12] at H
            have LMc12 := Aside0.mk c12
            clear c12
            obtain ⟨y351, hy351⟩ : ∃ y_ : List (S27), y_ = (([] : List (S27)) ++ l1) := ⟨_, rfl⟩
            replace H : ((label_Behind.f y348 y351).bind fun t354 => ((label_Sort.f y351).bind fun t357 => ((folkmootref05_Same.f kj2 y348 l0).bind fun t360 => (if t360 = true then ((folkmootref05_Same.f kj2 y351 l1).bind fun t361 => (folkmootlaw05_LabelKeeps.j1 kj2 l0 l1 y348 y351 t354 t357 (!t361))) else (folkmootlaw05_LabelKeeps.j1 kj2 l0 l1 y348 y351 t354 t357 true))))) = some r := by first | (rw [hy351]; with_reducible exact H) | (have H2_ := (Option.bind_some _ _).symm.trans H; rw [hy351]; with_reducible exact H2_) | (have H2_ := (Option.bind_some _ _).symm.trans H; with_reducible exact H2_) | with_reducible exact H | (rw [hy351]; exact H) | exact H
            have Ny351 := Aside0.mk hy351
            clear hy351
            replace H := Option.bind_eq_some_iff.mp H
            obtain ⟨t354, A130, H⟩ := H
            replace H : ((label_Sort.f y351).bind fun t357 => ((folkmootref05_Same.f kj2 y348 l0).bind fun t360 => (if t360 = true then ((folkmootref05_Same.f kj2 y351 l1).bind fun t361 => (folkmootlaw05_LabelKeeps.j1 kj2 l0 l1 y348 y351 t354 t357 (!t361))) else (folkmootlaw05_LabelKeeps.j1 kj2 l0 l1 y348 y351 t354 t357 true)))) = some r := H
            have A13 := Aside0.mk A130
            clear A130
            replace H := Option.bind_eq_some_iff.mp H
            obtain ⟨t357, A140, H⟩ := H
            replace H : ((folkmootref05_Same.f kj2 y348 l0).bind fun t360 => (if t360 = true then ((folkmootref05_Same.f kj2 y351 l1).bind fun t361 => (folkmootlaw05_LabelKeeps.j1 kj2 l0 l1 y348 y351 t354 t357 (!t361))) else (folkmootlaw05_LabelKeeps.j1 kj2 l0 l1 y348 y351 t354 t357 true))) = some r := H
            have A14 := Aside0.mk A140
            clear A140
            have HC15 := Aside0.mk H
            clear H
            go_upto_region 8 with (first | ((with_reducible refine gate_builtin (b := .append) (xs := #[.tmp 22, .tmp 23]) rfl ?_); (try (refine gate_guard (by rfl) ?_; dsimp only)); at_builtin; refine Kd.R_append_rows k27 (w0 := w) w.heap.size rfl (.tmp 22) (.tmp 23) 41 27 (.agg #[(.int .u64 0), (.int .i64 0), (.int .u64 0), (.int .i64 0)]) 32 rfl Try.underlying41 info27 rfl (by decide) (by omega) (.slice none 0 0) ([] : List (S27)) l0 _ _ _ (fun _ => True) (fun _ => False) rfl rfl ?aO ?aR (fun _ _ h => h) (fun _ h => h.elim) ?aF ?aB ?aS ?aL ?_; (case aR => repeat (first | exact (Kd.C_below HR0.out HB.out) | (with_reducible refine Kd.C_alloc ?_ _) | (with_reducible refine Kd.C_drewN ?_ _) | (with_reducible refine Kd.C_drew ?_))); (case aB => exact (by repeat (first | (with_reducible first | exact HB.out | apply below_alloc | apply pw_below_drewN | apply below_drew1) | exact HB.out))); (case aF => exact (fun _ _ => trivial)); (case aO => exact ((Kd.R_nil _ _ _ _ (fun _ => True)))); (case aS => exact (below_size (by repeat (first | (with_reducible first | exact HB.out | apply below_alloc | apply pw_below_drewN | apply below_drew1) | exact HB.out)))); (case aL => have := LMc11.out; omega); intro v349 w16 ho hb hg hat; rw [← Ny348.out] at ho; have n0_ := Aside0.mk (hb); have n1_ := Aside0.mk (ho); clear HB; have HB := n0_; have HO350 := n1_; clear n0_ n1_; clear ho hb hg hat) | ((with_reducible refine gate_builtin (b := .append) (xs := #[.tmp 25, .tmp 26]) rfl ?_); (try (refine gate_guard (by rfl) ?_; dsimp only)); at_builtin; refine Kd.R_append_rows k27 (w0 := w) w.heap.size rfl (.tmp 25) (.tmp 26) 41 27 (.agg #[(.int .u64 0), (.int .i64 0), (.int .u64 0), (.int .i64 0)]) 32 rfl Try.underlying41 info27 rfl (by decide) (by omega) (.slice none 0 0) ([] : List (S27)) l1 _ _ _ (fun k_ => some k_ ≠ (v349 : Value).ownBlock) (fun _ => False) rfl rfl ?aO ?aR (fun _ _ h => h) (fun _ h => h.elim) ?aF ?aB ?aS ?aL ?_; (case aR => repeat (first | exact (Kd.C_below HR1.out HB.out) | (with_reducible refine Kd.C_alloc ?_ _) | (with_reducible refine Kd.C_drewN ?_ _) | (with_reducible refine Kd.C_drew ?_))); (case aB => exact (by repeat (first | (with_reducible first | exact HB.out | apply below_alloc | apply pw_below_drewN | apply below_drew1) | exact HB.out))); (case aF => exact (fun k_ hk => Kd.fresh' (Kd.R_lt (by (with_reducible repeat (first | apply Kd.R_alloc | apply Kd.R_drewN | apply Kd.R_drew)); exact HO350.out)) k_ hk)); (case aO => exact ((Kd.R_nil _ _ _ _ (fun k_ => some k_ ≠ (v349 : Value).ownBlock)))); (case aS => exact (below_size (by repeat (first | (with_reducible first | exact HB.out | apply below_alloc | apply pw_below_drewN | apply below_drew1) | exact HB.out)))); (case aL => have := LMc12.out; omega); intro v352 w17 ho hb hg hat; rw [← Ny351.out] at ho; have n0_ := Aside0.mk (Kd.R_after (Kd.R_apart_nil (by (with_reducible repeat (first | apply Kd.R_alloc | apply Kd.R_drewN | apply Kd.R_drew)); exact HO350.out)) hg hat); have n1_ := Aside0.mk (hb); have n2_ := Aside0.mk (ho); clear HO350; clear HB; have HO350 := n0_; have HB := n1_; have HO353 := n2_; clear n0_ n1_ n2_; clear ho hb hg hat; obtain ⟨Ao18, co18, eo18⟩ := Kd.R_slice HO350.out; subst eo18; obtain ⟨Ao19, co19, eo19⟩ := Kd.R_slice HO353.out; subst eo19) | ((with_reducible refine gate_callee (f := 34) rfl ?_); refine goesL_ (some 30) rfl rfl Try.func34 (by kernel_rfl) rfl #[.slice Ao18 y348.length co18, .slice Ao19 y351.length co19] rfl (by (try simp only [List.map_toArray, List.map_cons, List.map_nil]); first | done | rfl | (simp only [List.length_drop, List.length_take]; rfl)) ?_; (with_reducible refine (label_Behind.calls _ _ y348 _ _ y351 t354 _ ?side1 ?side2 ?side3 ?side4 A13.out).mono ?_); (case side1 => repeat (first | exact (Kd.R_reads' HO350.out).2.2 | (with_reducible refine Kd.C_alloc ?_ _) | (with_reducible refine Kd.C_drewN ?_ _) | (with_reducible refine Kd.C_drew ?_))); (case side2 => exact (Kd.R_reads' HO350.out).2.1); (case side3 => repeat (first | exact (Kd.R_reads' HO353.out).2.2 | (with_reducible refine Kd.C_alloc ?_ _) | (with_reducible refine Kd.C_drewN ?_ _) | (with_reducible refine Kd.C_drew ?_))); (case side4 => exact (Kd.R_reads' HO353.out).2.1); rintro e w20 ⟨v355, rfl, ho0, hb⟩; refine ⟨_, rfl, ?_⟩; have n0_ := Aside0.mk (Kd.R_elder' (by (with_reducible repeat (first | apply Kd.R_alloc | apply Kd.R_drewN | apply Kd.R_drew)); exact HO350.out) (Kd.R_base ho0) hb); have n1_ := Aside0.mk (Kd.R_elder' (by (with_reducible repeat (first | apply Kd.R_alloc | apply Kd.R_drewN | apply Kd.R_drew)); exact HO353.out) (Kd.R_base ho0) hb); have n2_ := Aside0.mk (Kd.R_lower (Kd.R_new' (Kd.R_new' ho0 (Kd.R_lt (by (with_reducible repeat (first | apply Kd.R_alloc | apply Kd.R_drewN | apply Kd.R_drew)); exact HO350.out))) (Kd.R_lt (by (with_reducible repeat (first | apply Kd.R_alloc | apply Kd.R_drewN | apply Kd.R_drew)); exact HO353.out))) (below_size (by repeat (first | (with_reducible first | exact HB.out | apply below_alloc | apply pw_below_drewN | apply below_drew1) | exact HB.out)))); have n3_ := Aside0.mk (below_step (by repeat (first | (with_reducible first | exact HB.out | apply below_alloc | apply pw_below_drewN | apply below_drew1) | exact HB.out)) hb); clear HO350; clear HO353; clear HB; have HO350 := n0_; have HO353 := n1_; have HO356 := n2_; have HB := n3_; clear n0_ n1_ n2_ n3_; (try clear hb); (try clear hb2); (try clear hk); (try clear hi); (try clear ho0)) | ((with_reducible refine gate_callee (f := 35) rfl ?_); refine goesL_ (some 32) rfl rfl Try.func35 (by kernel_rfl) rfl #[.slice Ao19 y351.length co19] rfl (by (try simp only [List.map_toArray, List.map_cons, List.map_nil]); first | done | rfl | (simp only [List.length_drop, List.length_take]; rfl)) ?_; (with_reducible refine (label_Sort.calls _ _ y351 t357 _ ?side1 ?side2 A14.out).mono ?_); (case side1 => repeat (first | exact (Kd.R_reads' HO353.out).2.2 | (with_reducible refine Kd.C_alloc ?_ _) | (with_reducible refine Kd.C_drewN ?_ _) | (with_reducible refine Kd.C_drew ?_))); (case side2 => exact (Kd.R_reads' HO353.out).2.1); rintro e w21 ⟨v358, rfl, ho0, hb⟩; refine ⟨_, rfl, ?_⟩; have n0_ := Aside0.mk (Kd.R_elder' (by (with_reducible repeat (first | apply Kd.R_alloc | apply Kd.R_drewN | apply Kd.R_drew)); exact HO350.out) (Kd.R_base ho0) hb); have n1_ := Aside0.mk (Kd.R_elder' (by (with_reducible repeat (first | apply Kd.R_alloc | apply Kd.R_drewN | apply Kd.R_drew)); exact HO353.out) (Kd.R_base ho0) hb); have n2_ := Aside0.mk (Kd.R_elder' (by (with_reducible repeat (first | apply Kd.R_alloc | apply Kd.R_drewN | apply Kd.R_drew)); exact HO356.out) (Kd.R_base ho0) hb); have n3_ := Aside0.mk (Kd.R_lower (Kd.R_new' (Kd.R_new' (Kd.R_new' ho0 (Kd.R_lt (by (with_reducible repeat (first | apply Kd.R_alloc | apply Kd.R_drewN | apply Kd.R_drew)); exact HO350.out))) (Kd.R_lt (by (with_reducible repeat (first | apply Kd.R_alloc | apply Kd.R_drewN | apply Kd.R_drew)); exact HO353.out))) (Kd.R_lt (by (with_reducible repeat (first | apply Kd.R_alloc | apply Kd.R_drewN | apply Kd.R_drew)); exact HO356.out))) (below_size (by repeat (first | (with_reducible first | exact HB.out | apply below_alloc | apply pw_below_drewN | apply below_drew1) | exact HB.out)))); have n4_ := Aside0.mk (below_step (by repeat (first | (with_reducible first | exact HB.out | apply below_alloc | apply pw_below_drewN | apply below_drew1) | exact HB.out)) hb); clear HO350; clear HO353; clear HO356; clear HB; have HO350 := n0_; have HO353 := n1_; have HO356 := n2_; have HO359 := n3_; have HB := n4_; clear n0_ n1_ n2_ n3_ n4_; (try clear hb); (try clear hb2); (try clear hk); (try clear hi); (try clear ho0)))
            (try simp only [Act.put, List.setIfInBounds_toArray, List.set_cons_zero, List.set_cons_succ])
            go_cut [42] (fun v42 wc => ∃ (kq : Nat) (x42_14 : Bool), v42 = .bool x42_14 ∧ Aside0 (folkmootlaw05_LabelKeeps.j1 kq l0 l1 y348 y351 t354 t357 x42_14 = some r) ∧ Aside0 (kq ≤ kj2) ∧ Aside0 (Kd.R k27 27 wc w.heap.size (fun k_ => some k_ ≠ ((.slice Ao19 y351.length co19) : Value).ownBlock ∧ some k_ ≠ (v355 : Value).ownBlock ∧ some k_ ≠ (v358 : Value).ownBlock) (.slice Ao18 y348.length co18) y348) ∧ Aside0 (Kd.R k27 27 wc w.heap.size (fun k_ => some k_ ≠ ((.slice Ao18 y348.length co18) : Value).ownBlock ∧ some k_ ≠ (v355 : Value).ownBlock ∧ some k_ ≠ (v358 : Value).ownBlock) (.slice Ao19 y351.length co19) y351) ∧ Aside0 (Kd.R k27 27 wc w.heap.size (fun k_ => some k_ ≠ ((.slice Ao18 y348.length co18) : Value).ownBlock ∧ some k_ ≠ ((.slice Ao19 y351.length co19) : Value).ownBlock ∧ some k_ ≠ (v358 : Value).ownBlock) v355 t354) ∧ Aside0 (Kd.R k27 27 wc w.heap.size (fun k_ => some k_ ≠ ((.slice Ao18 y348.length co18) : Value).ownBlock ∧ some k_ ≠ ((.slice Ao19 y351.length co19) : Value).ownBlock ∧ some k_ ≠ (v355 : Value).ownBlock) v358 t357) ∧ Aside0 (Below w.heap.size w wc))
            case first =>
              have H := HC15.out
              clear HC15
              replace H := Option.bind_eq_some_iff.mp H
              obtain ⟨t360, A220, H⟩ := H
              replace H : (if t360 = true then ((folkmootref05_Same.f kj2 y351 l1).bind fun t361 => (folkmootlaw05_LabelKeeps.j1 kj2 l0 l1 y348 y351 t354 t357 (!t361))) else (folkmootlaw05_LabelKeeps.j1 kj2 l0 l1 y348 y351 t354 t357 true)) = some r := H
              have A22 := Aside0.mk A220
              clear A220
              by_cases c23 : t360 = true
              · subst c23
                have H1 : ((folkmootref05_Same.f kj2 y351 l1).bind fun t361 => (folkmootlaw05_LabelKeeps.j1 kj2 l0 l1 y348 y351 t354 t357 (!t361))) = some r := by rw [if_pos rfl] at H; exact H
                clear H
                have H := H1
                clear H1
                replace H := Option.bind_eq_some_iff.mp H
                obtain ⟨t361, A240, H⟩ := H
                replace H : (folkmootlaw05_LabelKeeps.j1 kj2 l0 l1 y348 y351 t354 t357 (!t361)) = some r := H
                have A24 := Aside0.mk A240
                clear A240
                have H' := Aside0.mk H
                clear H
                go_wp2_with (first | ((with_reducible refine gate_callee (f := 30) rfl ?_); refine goesL_ (some 35) rfl rfl Try.func30 (by kernel_rfl) rfl #[.slice Ao18 y348.length co18, .slice A0 l0.length c0] rfl (by (try simp only [List.map_toArray, List.map_cons, List.map_nil]); first | done | rfl | (simp only [List.length_drop, List.length_take]; rfl)) ?_; (with_reducible refine (folkmootref05_Same.calls kj2 _ _ y348 _ _ l0 true _ ?side1 ?side2 ?side3 ?side4 A22.out).mono ?_); (case side1 => repeat (first | exact (Kd.R_reads' HO350.out).2.2 | (with_reducible refine Kd.C_alloc ?_ _) | (with_reducible refine Kd.C_drewN ?_ _) | (with_reducible refine Kd.C_drew ?_))); (case side2 => exact (Kd.R_reads' HO350.out).2.1); (case side3 => repeat (first | exact (Kd.C_below HR0.out HB.out) | (with_reducible refine Kd.C_alloc ?_ _) | (with_reducible refine Kd.C_drewN ?_ _) | (with_reducible refine Kd.C_drew ?_))); (case side4 => exact HC0.out); rintro e w' ⟨rfl, ⟨nd, rfl⟩⟩; refine ⟨_, rfl, ?_⟩) | (go_at_call 30; (with_reducible refine (folkmootref05_Same.calls kj2 _ _ y351 _ _ l1 t361 _ ?side1 ?side2 ?side3 ?side4 A24.out).mono ?_); (case side1 => repeat (first | exact (Kd.R_reads' HO353.out).2.2 | (with_reducible refine Kd.C_alloc ?_ _) | (with_reducible refine Kd.C_drewN ?_ _) | (with_reducible refine Kd.C_drew ?_))); (case side2 => exact (Kd.R_reads' HO353.out).2.1); (case side3 => repeat (first | exact (Kd.C_below HR1.out (by repeat (first | (with_reducible first | exact HB.out | apply below_alloc | apply pw_below_drewN | apply below_drew1) | exact HB.out))) | (with_reducible refine Kd.C_alloc ?_ _) | (with_reducible refine Kd.C_drewN ?_ _) | (with_reducible refine Kd.C_drew ?_))); (case side4 => exact HC1.out); rintro e w' ⟨rfl, ⟨nd, rfl⟩⟩))
                go_meet
                case rel => exact ⟨_, (!t361), (by first | rfl | (simp; done) | (simp [*]; done)), H', ⟨by have := HJ2.out; first | omega | exact Nat.le_refl _⟩, ⟨by (with_reducible repeat (first | apply Kd.R_alloc | apply Kd.R_drewN | apply Kd.R_drew)); exact Kd.R_mono HO350.out (fun _ hk => ⟨hk.1.1.2, ⟨hk.1.2, hk.2⟩⟩)⟩, ⟨by (with_reducible repeat (first | apply Kd.R_alloc | apply Kd.R_drewN | apply Kd.R_drew)); exact Kd.R_mono HO353.out (fun _ hk => ⟨hk.1.1, ⟨hk.1.2, hk.2⟩⟩)⟩, ⟨by (with_reducible repeat (first | apply Kd.R_alloc | apply Kd.R_drewN | apply Kd.R_drew)); exact Kd.R_mono HO356.out (fun _ hk => ⟨hk.1.1.2, ⟨hk.1.2, hk.2⟩⟩)⟩, ⟨by (with_reducible repeat (first | apply Kd.R_alloc | apply Kd.R_drewN | apply Kd.R_drew)); exact Kd.R_mono HO359.out (fun _ hk => ⟨hk.1.1.2, ⟨hk.1.2, hk.2⟩⟩)⟩, ⟨by repeat (first | (with_reducible first | exact HB.out | apply below_alloc | apply pw_below_drewN | apply below_drew1) | exact HB.out)⟩⟩
              · replace c23 := Bool.eq_false_iff.mpr c23
                subst c23
                have H1 : (folkmootlaw05_LabelKeeps.j1 kj2 l0 l1 y348 y351 t354 t357 true) = some r := by rw [if_neg (show ¬ (false = true) by decide)] at H; exact H
                clear H
                have H := H1
                clear H1
                have H' := Aside0.mk H
                clear H
                go_wp2_with (first | ((with_reducible refine gate_callee (f := 30) rfl ?_); refine goesL_ (some 35) rfl rfl Try.func30 (by kernel_rfl) rfl #[.slice Ao18 y348.length co18, .slice A0 l0.length c0] rfl (by (try simp only [List.map_toArray, List.map_cons, List.map_nil]); first | done | rfl | (simp only [List.length_drop, List.length_take]; rfl)) ?_; (with_reducible refine (folkmootref05_Same.calls kj2 _ _ y348 _ _ l0 false _ ?side1 ?side2 ?side3 ?side4 A22.out).mono ?_); (case side1 => repeat (first | exact (Kd.R_reads' HO350.out).2.2 | (with_reducible refine Kd.C_alloc ?_ _) | (with_reducible refine Kd.C_drewN ?_ _) | (with_reducible refine Kd.C_drew ?_))); (case side2 => exact (Kd.R_reads' HO350.out).2.1); (case side3 => repeat (first | exact (Kd.C_below HR0.out HB.out) | (with_reducible refine Kd.C_alloc ?_ _) | (with_reducible refine Kd.C_drewN ?_ _) | (with_reducible refine Kd.C_drew ?_))); (case side4 => exact HC0.out); rintro e w' ⟨rfl, ⟨nd, rfl⟩⟩; refine ⟨_, rfl, ?_⟩))
                go_meet
                case rel => exact ⟨_, (true), (by first | rfl | (simp; done) | (simp [*]; done)), H', ⟨by have := HJ2.out; first | omega | exact Nat.le_refl _⟩, ⟨by (with_reducible repeat (first | apply Kd.R_alloc | apply Kd.R_drewN | apply Kd.R_drew)); exact Kd.R_mono HO350.out (fun _ hk => ⟨hk.1.1.2, ⟨hk.1.2, hk.2⟩⟩)⟩, ⟨by (with_reducible repeat (first | apply Kd.R_alloc | apply Kd.R_drewN | apply Kd.R_drew)); exact Kd.R_mono HO353.out (fun _ hk => ⟨hk.1.1, ⟨hk.1.2, hk.2⟩⟩)⟩, ⟨by (with_reducible repeat (first | apply Kd.R_alloc | apply Kd.R_drewN | apply Kd.R_drew)); exact Kd.R_mono HO356.out (fun _ hk => ⟨hk.1.1.2, ⟨hk.1.2, hk.2⟩⟩)⟩, ⟨by (with_reducible repeat (first | apply Kd.R_alloc | apply Kd.R_drewN | apply Kd.R_drew)); exact Kd.R_mono HO359.out (fun _ hk => ⟨hk.1.1.2, ⟨hk.1.2, hk.2⟩⟩)⟩, ⟨by repeat (first | (with_reducible first | exact HB.out | apply below_alloc | apply pw_below_drewN | apply below_drew1) | exact HB.out)⟩⟩
            case rest =>
              clear HC15
              try clear c1
              try clear c2
              try clear p2
              try clear c3
              try clear c5
              try clear p6
              try clear c7
              try clear c8
              try clear c11
              try clear c12
              try clear c23
              try clear p2
              try clear p6
              obtain ⟨kq, x42_14, rfl, HA, HJ14, HO_5, HO_6, HO_7, HO_8, HB⟩ := hcut
              cases kq with
              | zero => exact absurd HA.out (by simp [folkmootlaw05_LabelKeeps.j1])
              | succ kj14 =>
                have H := HA.out
                clear HA
                simp only [folkmootlaw05_LabelKeeps.j1] at H
                by_cases c25 : x42_14 = true
                · subst c25
                  have H1 : (some false) = some r := by rw [if_pos rfl] at H; exact H
                  clear H
                  have H := H1
                  clear H1
                  obtain rfl := Option.some.inj H
                  go_wp2
                  go_ret
                  exact ⟨by first | rfl | (simp [errW_none, errW_some] <;> rfl) | (simp [*, errW_none, errW_some] <;> rfl), by repeat (first | (with_reducible first | exact HB.out | apply below_alloc | apply pw_below_drewN | apply below_drew1) | exact HB.out)⟩
                · replace c25 := Bool.eq_false_iff.mpr c25
                  subst c25
                  have H1 : (folkmootlaw05_LabelKeeps.l0 kj14 l0 l1 y348 y351 t354 t357 0) = some r := by rw [if_neg (show ¬ (false = true) by decide)] at H; exact H
                  clear H
                  have H := H1
                  clear H1
                  have H' := Aside0.mk H
                  clear H
                  go_wp2
                  go_loopg [9] kj14 (fun kq v9 w' => ∃ (x7_3 : List (S27)) (x9_3 : Int), v9 = .int .i64 x9_3 ∧ Aside0 (folkmootlaw05_LabelKeeps.l0 kq l0 l1 y348 y351 x7_3 t357 x9_3 = some r) ∧ Aside0 (kq ≤ kj14) ∧ Aside0 (Kd.R k27 27 w' w.heap.size (fun k_ => some k_ ≠ ((.slice Ao19 y351.length co19) : Value).ownBlock ∧ some k_ ≠ (v355 : Value).ownBlock ∧ some k_ ≠ (v358 : Value).ownBlock) (.slice Ao18 y348.length co18) y348) ∧ Aside0 (Kd.R k27 27 w' w.heap.size (fun k_ => some k_ ≠ ((.slice Ao18 y348.length co18) : Value).ownBlock ∧ some k_ ≠ (v355 : Value).ownBlock ∧ some k_ ≠ (v358 : Value).ownBlock) (.slice Ao19 y351.length co19) y351) ∧ Aside0 (Kd.R k27 27 w' w.heap.size (fun k_ => some k_ ≠ ((.slice Ao18 y348.length co18) : Value).ownBlock ∧ some k_ ≠ ((.slice Ao19 y351.length co19) : Value).ownBlock ∧ some k_ ≠ (v358 : Value).ownBlock) v355 x7_3) ∧ Aside0 (Kd.R k27 27 w' w.heap.size (fun k_ => some k_ ≠ ((.slice Ao18 y348.length co18) : Value).ownBlock ∧ some k_ ≠ ((.slice Ao19 y351.length co19) : Value).ownBlock ∧ some k_ ≠ (v355 : Value).ownBlock) v358 t357) ∧ Aside0 (Below w.heap.size w w'))
                  case atStart => exact ⟨(t354), (0), (by first | rfl | (simp; done) | (simp [*]; done)), H', ⟨Nat.le_refl _⟩, ⟨by (with_reducible repeat (first | apply Kd.R_alloc | apply Kd.R_drewN | apply Kd.R_drew)); exact HO_5.out⟩, ⟨by (with_reducible repeat (first | apply Kd.R_alloc | apply Kd.R_drewN | apply Kd.R_drew)); exact HO_6.out⟩, ⟨by (with_reducible repeat (first | apply Kd.R_alloc | apply Kd.R_drewN | apply Kd.R_drew)); exact HO_7.out⟩, ⟨by (with_reducible repeat (first | apply Kd.R_alloc | apply Kd.R_drewN | apply Kd.R_drew)); exact HO_8.out⟩, ⟨by repeat (first | (with_reducible first | exact HB.out | apply below_alloc | apply pw_below_drewN | apply below_drew1) | exact HB.out)⟩⟩
                  case round =>
                    clear H'
                    try clear c1
                    try clear c2
                    try clear p2
                    try clear c3
                    try clear c5
                    try clear p6
                    try clear c7
                    try clear c8
                    try clear c11
                    try clear c12
                    try clear c23
                    try clear c25
                    try clear p2
                    try clear p6
                    obtain ⟨x7_3, x9_3, rfl, HA, HK3, HO_5, HO_6, HO_7, HO_8, HB⟩ := hrel
                    cases gk with
                    | zero => exact absurd HA.out (by simp [folkmootlaw05_LabelKeeps.l0])
                    | succ k3 =>
                      have H := HA.out
                      clear HA
                      simp only [folkmootlaw05_LabelKeeps.l0] at H
                      by_cases c26 : x9_3 < (x7_3.length : Int)
                      · rw [if_pos c26] at H
                        have c26b0 : decide (x9_3 < (x7_3.length : Int)) = true := decide_eq_true c26
                        clear c26
                        by_cases c27 : 0 ≤ x9_3
                        · rw [if_pos c27] at H
                          have c27b0 : decide (0 ≤ x9_3) = true := decide_eq_true c27
                          clear c27
                          obtain ⟨y363, hy363⟩ : ∃ y_ : List (S27), y_ = (x7_3.set (x9_3 : Int).toNat (⟨(⟨(rd_T27 x7_3 x9_3).f0.f0, (rd_T27 x7_3 x9_3).f0.f1⟩ : S25), IntKind.u64.wrap (((rd_T27 x7_3 x9_3).f1) + 1), (rd_T27 x7_3 x9_3).f2⟩ : S27)) := ⟨_, rfl⟩
                          replace H : (folkmootlaw05_LabelKeeps.l0 k3 l0 l1 y348 y351 y363 t357 (wrap64 (x9_3 + 1))) = some r := by first | (rw [hy363]; with_reducible exact H) | (have H2_ := (Option.bind_some _ _).symm.trans H; rw [hy363]; with_reducible exact H2_) | (have H2_ := (Option.bind_some _ _).symm.trans H; with_reducible exact H2_) | with_reducible exact H | (rw [hy363]; exact H) | exact H
                          have Ny363 := Aside0.mk hy363
                          clear hy363
                          have H' := Aside0.mk H
                          clear H
                          obtain ⟨Ao29, co29, eo29⟩ := Kd.R_slice HO_7.out
                          subst eo29
                          have p362 : 0 ≤ (x9_3 : Int) := of_decide_eq_true (by first | (with_reducible assumption) | assumption)
                          have q362 : x9_3 < (x7_3.length : Int) := of_decide_eq_true (by first | (with_reducible assumption) | assumption)
                          obtain ⟨ad362, e362, hx362_0, hx362_1, hx362_2, hx362_3⟩ := at_T27 (Kd.R_reads' HO_7.out).2.2 x9_3 p362 q362
                          cases e362
                          replace p362 := eq_true p362
                          replace q362 := eq_true q362
                          have p28 : 0 ≤ (x9_3 : Int) := of_decide_eq_true (by first | (with_reducible assumption) | assumption)
                          have q28 : (x9_3 : Int) < ((x7_3.length : Int) : Int) := of_decide_eq_true (by first | (with_reducible assumption) | assumption)
                          obtain ⟨go28, co28, eo28, gb28, gl28, cl28, HG28⟩ := Kd.R_form HO_7.out (by omega)
                          (first | cases eo28 | (injection eo28 with ea_ en_ ec_; (first | subst ea_ | (injection ea_ with ea_; subst ea_)); subst ec_; clear en_))
                          have GB28 := Aside0.mk gb28
                          have GG28 := Aside0.mk HG28
                          clear gb28 gl28 HG28
                          (first | simp only [add_plain] at hx362_0 | skip)
                          (first | simp only [add_plain] at hx362_1 | skip)
                          (first | simp only [add_plain] at hx362_2 | skip)
                          (first | simp only [add_plain] at hx362_3 | skip)
                          obtain ⟨ce28, hcl28, hM28, hcc28, hfr28⟩ := Kd.R_elem HO_7.out z27 (x9_3 : Int) p28 q28
                          obtain rfl := k27_openM hM28
                          have hx28_0 : wr.cell? ⟨go28, (x9_3 : Int).toNat * 4, none⟩ = some (.int .u64 ((rd_T27 x7_3 x9_3).f0.f0)) := hcc28 0 _ rfl
                          have hx28_1 : wr.cell? ⟨go28, (x9_3 : Int).toNat * 4 + 1, none⟩ = some (.int .i64 ((rd_T27 x7_3 x9_3).f0.f1)) := hcc28 1 _ rfl
                          have hx28_2 : wr.cell? ⟨go28, (x9_3 : Int).toNat * 4 + 2, none⟩ = some (.int .u64 ((rd_T27 x7_3 x9_3).f1)) := hcc28 2 _ rfl
                          have hx28_3 : wr.cell? ⟨go28, (x9_3 : Int).toNat * 4 + 3, none⟩ = some (.int .i64 ((rd_T27 x7_3 x9_3).f2)) := hcc28 3 _ rfl
                          have hf28_0 : wr.frozen? ⟨go28, (x9_3 : Int).toNat * 4, none⟩ = false := hfr28 0
                          have hf28_1 : wr.frozen? ⟨go28, (x9_3 : Int).toNat * 4 + 1, none⟩ = false := hfr28 1
                          have hf28_2 : wr.frozen? ⟨go28, (x9_3 : Int).toNat * 4 + 2, none⟩ = false := hfr28 2
                          have hf28_3 : wr.frozen? ⟨go28, (x9_3 : Int).toNat * 4 + 3, none⟩ = false := hfr28 3
                          clear hcl28 hcc28 hfr28 hM28
                          replace p28 := eq_true p28
                          replace q28 := eq_true q28
                          have HX30 := Aside0.mk (show Kd.R k27 27 wr w.heap.size (fun k_ => some k_ ≠ (.slice Ao18 y348.length co18 : Value).ownBlock ∧ some k_ ≠ (.slice Ao19 y351.length co19 : Value).ownBlock ∧ some k_ ≠ (v358 : Value).ownBlock) (.slice (some ⟨go28, 0, none⟩) x7_3.length co29) x7_3 from (by (with_reducible repeat (first | apply Kd.R_alloc | apply Kd.R_drewN | apply Kd.R_drew)); exact HO_7.out))
                          obtain ⟨ce30, hcl30, hM30, hcc30, hfr30⟩ := Kd.R_elem HX30.out z27 (x9_3 : Int) (of_decide_eq_true (by first | (with_reducible assumption) | assumption)) (by have h_ : (x9_3 : Int) < ((x7_3.length : Int) : Int) := of_decide_eq_true (by first | (with_reducible assumption) | assumption); first | exact h_ | (have e_ := (Kd.R_reads' HO_7.out).1; omega) | simpa using h_)
                          obtain rfl := k27_openM hM30
                          have HP30 := Kd.R_seg HX30.out (x9_3 : Int) (of_decide_eq_true (by first | (with_reducible assumption) | assumption)) (by have h_ : (x9_3 : Int) < ((x7_3.length : Int) : Int) := of_decide_eq_true (by first | (with_reducible assumption) | assumption); first | exact h_ | (have e_ := (Kd.R_reads' HO_7.out).1; omega) | simpa using h_) (seg := [.int .u64 (IntKind.u64.wrap (((rd_T27 x7_3 x9_3).f1) + 1))]) (j := 2) hcl30 hcc30 (show 3 ≤ 4 from by decide) (x' := (⟨(⟨(rd_T27 x7_3 x9_3).f0.f0, (rd_T27 x7_3 x9_3).f0.f1⟩ : S25), IntKind.u64.wrap (((rd_T27 x7_3 x9_3).f1) + 1), (rd_T27 x7_3 x9_3).f2⟩ : S27)) (k27_mkM _ _ _ (⟨(⟨(rd_T27 x7_3 x9_3).f0.f0, (rd_T27 x7_3 x9_3).f0.f1⟩ : S25), IntKind.u64.wrap (((rd_T27 x7_3 x9_3).f1) + 1), (rd_T27 x7_3 x9_3).f2⟩ : S27) ) (fun _ hk => hk)
                          have hx30_2 := hcc30 2 _ rfl
                          (try simp only [show (k27).sz = 4 from rfl, Nat.mul_one, Nat.add_zero] at hx30_2)
                          have hf30_2 := hfr30 2
                          (try simp only [show (k27).sz = 4 from rfl, Nat.mul_one, Nat.add_zero] at hf30_2)
                          clear hcl30 hcc30 hfr30 hM30
                          go_wp2_with (first | ((with_reducible refine gate_store (t := 23) (p := 56) rfl ?_); refine store_event (t := 23) (p := 56) (v := ?vo_w31) (w1 := (wr.setCell ⟨go28, (x9_3 : Int).toNat * 4 + 2, none⟩ (.int .u64 (IntKind.u64.wrap (((rd_T27 x7_3 x9_3).f1) + 1))))) ?hg ?ho ?hn ?hr ?_; (case ho => rfl); (case hg => rfl); (case hn => rfl); (case hr => first | (go_simp; done) | (go_simp; rfl)); intro w31 hw; have hg : wr.grownBy w31 (some go28) := (by rw [hw]; exact HP30.2); have hp_ : Kd.R k27 27 w31 w.heap.size (fun k_ => some k_ ≠ (.slice Ao18 y348.length co18 : Value).ownBlock ∧ some k_ ≠ (.slice Ao19 y351.length co19 : Value).ownBlock ∧ some k_ ≠ (v358 : Value).ownBlock) (.slice (some ⟨go28, 0, none⟩) x7_3.length co29) y363 := (by rw [hw, Ny363.out]; exact HP30.1); clear HP30; have n0_ := Aside0.mk (Kd.R_after (v := (.slice (some ⟨go28, 0, none⟩) x7_3.length co29)) (v1 := (.slice (some ⟨go28, 0, none⟩) x7_3.length co29)) (ok := (fun k_ => some k_ ≠ (.slice Ao19 y351.length co19 : Value).ownBlock ∧ some k_ ≠ (v358 : Value).ownBlock)) (by (with_reducible repeat (first | apply Kd.R_alloc | apply Kd.R_drewN | apply Kd.R_drew)); exact Kd.R_mono HO_5.out (fun _ hk => ⟨⟨hk.1, hk.2.2⟩, hk.2.1⟩)) hg (.inl rfl)); have n1_ := Aside0.mk (Kd.R_after (v := (.slice (some ⟨go28, 0, none⟩) x7_3.length co29)) (v1 := (.slice (some ⟨go28, 0, none⟩) x7_3.length co29)) (ok := (fun k_ => some k_ ≠ (.slice Ao18 y348.length co18 : Value).ownBlock ∧ some k_ ≠ (v358 : Value).ownBlock)) (by (with_reducible repeat (first | apply Kd.R_alloc | apply Kd.R_drewN | apply Kd.R_drew)); exact Kd.R_mono HO_6.out (fun _ hk => ⟨⟨hk.1, hk.2.2⟩, hk.2.1⟩)) hg (.inl rfl)); have n2_ := Aside0.mk (hp_); have n3_ := Aside0.mk (Kd.R_after (v := (.slice (some ⟨go28, 0, none⟩) x7_3.length co29)) (v1 := (.slice (some ⟨go28, 0, none⟩) x7_3.length co29)) (ok := (fun k_ => some k_ ≠ (.slice Ao18 y348.length co18 : Value).ownBlock ∧ some k_ ≠ (.slice Ao19 y351.length co19 : Value).ownBlock)) (by (with_reducible repeat (first | apply Kd.R_alloc | apply Kd.R_drewN | apply Kd.R_drew)); exact Kd.R_mono HO_8.out (fun _ hk => ⟨⟨hk.1, hk.2.1⟩, hk.2.2⟩)) hg (.inl rfl)); have n4_ := Aside0.mk ((by rw [hw]; exact below_set (HB.out) GB28.out : Below w.heap.size w w31)); clear HO_5; clear HO_6; clear HO_7; clear HO_8; clear HB; have HO_5 := n0_; have HO_6 := n1_; have HO_7 := n2_; have HO_8 := n3_; have HB := n4_; clear n0_ n1_ n2_ n3_ n4_; clear hg hw hp_))
                          go_roundg k3
                          case measure => have := HJ2.out; have := HJ14.out; have := HK3.out; omega
                          case rel => exact ⟨(y363), (wrap64 (x9_3 + 1)), (by first | rfl | (simp; done) | (simp [*]; done)), H', ⟨by have := HJ2.out; have := HJ14.out; have := HK3.out; omega⟩, ⟨by (with_reducible repeat (first | apply Kd.R_alloc | apply Kd.R_drewN | apply Kd.R_drew)); exact Kd.R_mono HO_5.out (fun _ hk => ⟨hk.1.1, ⟨hk.2, hk.1.2⟩⟩)⟩, ⟨by (with_reducible repeat (first | apply Kd.R_alloc | apply Kd.R_drewN | apply Kd.R_drew)); exact Kd.R_mono HO_6.out (fun _ hk => ⟨hk.1.1, ⟨hk.2, hk.1.2⟩⟩)⟩, ⟨by (with_reducible repeat (first | apply Kd.R_alloc | apply Kd.R_drewN | apply Kd.R_drew)); exact HO_7.out⟩, ⟨by (with_reducible repeat (first | apply Kd.R_alloc | apply Kd.R_drewN | apply Kd.R_drew)); exact Kd.R_mono HO_8.out (fun _ hk => ⟨hk.1.1, ⟨hk.1.2, hk.2⟩⟩)⟩, ⟨by repeat (first | (with_reducible first | exact HB.out | apply below_alloc | apply pw_below_drewN | apply below_drew1) | exact HB.out)⟩⟩
                        · rw [if_neg c27] at H
                          exact absurd H (by simp)
                      · rw [if_neg c26] at H
                        have c26b0 : decide (x9_3 < (x7_3.length : Int)) = false := decide_eq_false c26
                        clear c26
                        have H' := Aside0.mk H
                        clear H
                        obtain ⟨Ao32, co32, eo32⟩ := Kd.R_slice HO_7.out
                        subst eo32
                        go_wp2
                        go_loopg [10] k3 (fun kq v10 w' => ∃ (x8_4 : List (S27)) (x10_4 : Int), v10 = .int .i64 x10_4 ∧ Aside0 (folkmootlaw05_LabelKeeps.l1 kq l0 l1 y348 y351 x8_4 x10_4 = some r) ∧ Aside0 (kq ≤ k3) ∧ Aside0 (Kd.R k27 27 w' w.heap.size (fun k_ => some k_ ≠ ((.slice Ao19 y351.length co19) : Value).ownBlock ∧ some k_ ≠ (v358 : Value).ownBlock) (.slice Ao18 y348.length co18) y348) ∧ Aside0 (Kd.R k27 27 w' w.heap.size (fun k_ => some k_ ≠ ((.slice Ao18 y348.length co18) : Value).ownBlock ∧ some k_ ≠ (v358 : Value).ownBlock) (.slice Ao19 y351.length co19) y351) ∧ Aside0 (Kd.R k27 27 w' w.heap.size (fun k_ => some k_ ≠ ((.slice Ao18 y348.length co18) : Value).ownBlock ∧ some k_ ≠ ((.slice Ao19 y351.length co19) : Value).ownBlock) v358 x8_4) ∧ Aside0 (Below w.heap.size w w'))
                        case atStart => exact ⟨(t357), (0), (by first | rfl | (simp; done) | (simp [*]; done)), H', ⟨Nat.le_refl _⟩, ⟨by (with_reducible repeat (first | apply Kd.R_alloc | apply Kd.R_drewN | apply Kd.R_drew)); exact Kd.R_mono HO_5.out (fun _ hk => ⟨hk.1, hk.2.2⟩)⟩, ⟨by (with_reducible repeat (first | apply Kd.R_alloc | apply Kd.R_drewN | apply Kd.R_drew)); exact Kd.R_mono HO_6.out (fun _ hk => ⟨hk.1, hk.2.2⟩)⟩, ⟨by (with_reducible repeat (first | apply Kd.R_alloc | apply Kd.R_drewN | apply Kd.R_drew)); exact Kd.R_mono HO_8.out (fun _ hk => ⟨hk.1, hk.2.1⟩)⟩, ⟨by repeat (first | (with_reducible first | exact HB.out | apply below_alloc | apply pw_below_drewN | apply below_drew1) | exact HB.out)⟩⟩
                        case round =>
                          clear H'
                          try clear c1
                          try clear c2
                          try clear p2
                          try clear q2
                          try clear hx2
                          try clear hf2
                          try clear c3
                          try clear p3
                          try clear q3
                          try clear hx3
                          try clear hf3
                          try clear c5
                          try clear p6
                          try clear c7
                          try clear c8
                          try clear c11
                          try clear c12
                          try clear c23
                          try clear c25
                          try clear c26
                          try clear c26b0
                          try clear c27
                          try clear c27b0
                          try clear c28
                          try clear p28
                          try clear q28
                          try clear hx28
                          try clear hf28
                          try clear c30
                          try clear hx30
                          try clear hf30
                          try clear hx28_0
                          try clear hx28_1
                          try clear hx28_2
                          try clear hx28_3
                          try clear hx30_2
                          try clear hx362_0
                          try clear hx362_1
                          try clear hx362_2
                          try clear hx362_3
                          try clear p2
                          try clear p28
                          try clear p362
                          try clear p6
                          try clear q28
                          try clear q362
                          obtain ⟨x8_4, x10_4, rfl, HA, HK4, HO_5, HO_6, HO_8, HB⟩ := hrel
                          cases gk with
                          | zero => exact absurd HA.out (by simp [folkmootlaw05_LabelKeeps.l1])
                          | succ k4 =>
                            have H := HA.out
                            clear HA
                            simp only [folkmootlaw05_LabelKeeps.l1] at H
                            by_cases c33 : x10_4 < (x8_4.length : Int)
                            · rw [if_pos c33] at H
                              have c33b0 : decide (x10_4 < (x8_4.length : Int)) = true := decide_eq_true c33
                              clear c33
                              by_cases c34 : 0 ≤ x10_4
                              · rw [if_pos c34] at H
                                have c34b0 : decide (0 ≤ x10_4) = true := decide_eq_true c34
                                clear c34
                                obtain ⟨y365, hy365⟩ : ∃ y_ : List (S27), y_ = (x8_4.set (x10_4 : Int).toNat (⟨(⟨(rd_T27 x8_4 x10_4).f0.f0, (rd_T27 x8_4 x10_4).f0.f1⟩ : S25), IntKind.u64.wrap (((rd_T27 x8_4 x10_4).f1) + 1), (rd_T27 x8_4 x10_4).f2⟩ : S27)) := ⟨_, rfl⟩
                                replace H : (folkmootlaw05_LabelKeeps.l1 k4 l0 l1 y348 y351 y365 (wrap64 (x10_4 + 1))) = some r := by first | (rw [hy365]; with_reducible exact H) | (have H2_ := (Option.bind_some _ _).symm.trans H; rw [hy365]; with_reducible exact H2_) | (have H2_ := (Option.bind_some _ _).symm.trans H; with_reducible exact H2_) | with_reducible exact H | (rw [hy365]; exact H) | exact H
                                have Ny365 := Aside0.mk hy365
                                clear hy365
                                have H' := Aside0.mk H
                                clear H
                                obtain ⟨Ao36, co36, eo36⟩ := Kd.R_slice HO_8.out
                                subst eo36
                                have p364 : 0 ≤ (x10_4 : Int) := of_decide_eq_true (by first | (with_reducible assumption) | assumption)
                                have q364 : x10_4 < (x8_4.length : Int) := of_decide_eq_true (by first | (with_reducible assumption) | assumption)
                                obtain ⟨ad364, e364, hx364_0, hx364_1, hx364_2, hx364_3⟩ := at_T27 (Kd.R_reads' HO_8.out).2.2 x10_4 p364 q364
                                cases e364
                                replace p364 := eq_true p364
                                replace q364 := eq_true q364
                                have p35 : 0 ≤ (x10_4 : Int) := of_decide_eq_true (by first | (with_reducible assumption) | assumption)
                                have q35 : (x10_4 : Int) < ((x8_4.length : Int) : Int) := of_decide_eq_true (by first | (with_reducible assumption) | assumption)
                                obtain ⟨go35, co35, eo35, gb35, gl35, cl35, HG35⟩ := Kd.R_form HO_8.out (by omega)
                                (first | cases eo35 | (injection eo35 with ea_ en_ ec_; (first | subst ea_ | (injection ea_ with ea_; subst ea_)); subst ec_; clear en_))
                                have GB35 := Aside0.mk gb35
                                have GG35 := Aside0.mk HG35
                                clear gb35 gl35 HG35
                                (first | simp only [add_plain] at hx364_0 | skip)
                                (first | simp only [add_plain] at hx364_1 | skip)
                                (first | simp only [add_plain] at hx364_2 | skip)
                                (first | simp only [add_plain] at hx364_3 | skip)
                                obtain ⟨ce35, hcl35, hM35, hcc35, hfr35⟩ := Kd.R_elem HO_8.out z27 (x10_4 : Int) p35 q35
                                obtain rfl := k27_openM hM35
                                have hx35_0 : wr.cell? ⟨go35, (x10_4 : Int).toNat * 4, none⟩ = some (.int .u64 ((rd_T27 x8_4 x10_4).f0.f0)) := hcc35 0 _ rfl
                                have hx35_1 : wr.cell? ⟨go35, (x10_4 : Int).toNat * 4 + 1, none⟩ = some (.int .i64 ((rd_T27 x8_4 x10_4).f0.f1)) := hcc35 1 _ rfl
                                have hx35_2 : wr.cell? ⟨go35, (x10_4 : Int).toNat * 4 + 2, none⟩ = some (.int .u64 ((rd_T27 x8_4 x10_4).f1)) := hcc35 2 _ rfl
                                have hx35_3 : wr.cell? ⟨go35, (x10_4 : Int).toNat * 4 + 3, none⟩ = some (.int .i64 ((rd_T27 x8_4 x10_4).f2)) := hcc35 3 _ rfl
                                have hf35_0 : wr.frozen? ⟨go35, (x10_4 : Int).toNat * 4, none⟩ = false := hfr35 0
                                have hf35_1 : wr.frozen? ⟨go35, (x10_4 : Int).toNat * 4 + 1, none⟩ = false := hfr35 1
                                have hf35_2 : wr.frozen? ⟨go35, (x10_4 : Int).toNat * 4 + 2, none⟩ = false := hfr35 2
                                have hf35_3 : wr.frozen? ⟨go35, (x10_4 : Int).toNat * 4 + 3, none⟩ = false := hfr35 3
                                clear hcl35 hcc35 hfr35 hM35
                                replace p35 := eq_true p35
                                replace q35 := eq_true q35
                                have HX37 := Aside0.mk (show Kd.R k27 27 wr w.heap.size (fun k_ => some k_ ≠ (.slice Ao18 y348.length co18 : Value).ownBlock ∧ some k_ ≠ (.slice Ao19 y351.length co19 : Value).ownBlock) (.slice (some ⟨go35, 0, none⟩) x8_4.length co36) x8_4 from (by (with_reducible repeat (first | apply Kd.R_alloc | apply Kd.R_drewN | apply Kd.R_drew)); exact HO_8.out))
                                obtain ⟨ce37, hcl37, hM37, hcc37, hfr37⟩ := Kd.R_elem HX37.out z27 (x10_4 : Int) (of_decide_eq_true (by first | (with_reducible assumption) | assumption)) (by have h_ : (x10_4 : Int) < ((x8_4.length : Int) : Int) := of_decide_eq_true (by first | (with_reducible assumption) | assumption); first | exact h_ | (have e_ := (Kd.R_reads' HO_8.out).1; omega) | simpa using h_)
                                obtain rfl := k27_openM hM37
                                have HP37 := Kd.R_seg HX37.out (x10_4 : Int) (of_decide_eq_true (by first | (with_reducible assumption) | assumption)) (by have h_ : (x10_4 : Int) < ((x8_4.length : Int) : Int) := of_decide_eq_true (by first | (with_reducible assumption) | assumption); first | exact h_ | (have e_ := (Kd.R_reads' HO_8.out).1; omega) | simpa using h_) (seg := [.int .u64 (IntKind.u64.wrap (((rd_T27 x8_4 x10_4).f1) + 1))]) (j := 2) hcl37 hcc37 (show 3 ≤ 4 from by decide) (x' := (⟨(⟨(rd_T27 x8_4 x10_4).f0.f0, (rd_T27 x8_4 x10_4).f0.f1⟩ : S25), IntKind.u64.wrap (((rd_T27 x8_4 x10_4).f1) + 1), (rd_T27 x8_4 x10_4).f2⟩ : S27)) (k27_mkM _ _ _ (⟨(⟨(rd_T27 x8_4 x10_4).f0.f0, (rd_T27 x8_4 x10_4).f0.f1⟩ : S25), IntKind.u64.wrap (((rd_T27 x8_4 x10_4).f1) + 1), (rd_T27 x8_4 x10_4).f2⟩ : S27) ) (fun _ hk => hk)
                                have hx37_2 := hcc37 2 _ rfl
                                (try simp only [show (k27).sz = 4 from rfl, Nat.mul_one, Nat.add_zero] at hx37_2)
                                have hf37_2 := hfr37 2
                                (try simp only [show (k27).sz = 4 from rfl, Nat.mul_one, Nat.add_zero] at hf37_2)
                                clear hcl37 hcc37 hfr37 hM37
                                go_wp2_with (first | ((with_reducible refine gate_store (t := 23) (p := 70) rfl ?_); refine store_event (t := 23) (p := 70) (v := ?vo_w38) (w1 := (wr.setCell ⟨go35, (x10_4 : Int).toNat * 4 + 2, none⟩ (.int .u64 (IntKind.u64.wrap (((rd_T27 x8_4 x10_4).f1) + 1))))) ?hg ?ho ?hn ?hr ?_; (case ho => rfl); (case hg => rfl); (case hn => rfl); (case hr => first | (go_simp; done) | (go_simp; rfl)); intro w38 hw; have hg : wr.grownBy w38 (some go35) := (by rw [hw]; exact HP37.2); have hp_ : Kd.R k27 27 w38 w.heap.size (fun k_ => some k_ ≠ (.slice Ao18 y348.length co18 : Value).ownBlock ∧ some k_ ≠ (.slice Ao19 y351.length co19 : Value).ownBlock) (.slice (some ⟨go35, 0, none⟩) x8_4.length co36) y365 := (by rw [hw, Ny365.out]; exact HP37.1); clear HP37; have n0_ := Aside0.mk (Kd.R_after (v := (.slice (some ⟨go35, 0, none⟩) x8_4.length co36)) (v1 := (.slice (some ⟨go35, 0, none⟩) x8_4.length co36)) (ok := (fun k_ => some k_ ≠ (.slice Ao19 y351.length co19 : Value).ownBlock)) (by (with_reducible repeat (first | apply Kd.R_alloc | apply Kd.R_drewN | apply Kd.R_drew)); exact HO_5.out) hg (.inl rfl)); have n1_ := Aside0.mk (Kd.R_after (v := (.slice (some ⟨go35, 0, none⟩) x8_4.length co36)) (v1 := (.slice (some ⟨go35, 0, none⟩) x8_4.length co36)) (ok := (fun k_ => some k_ ≠ (.slice Ao18 y348.length co18 : Value).ownBlock)) (by (with_reducible repeat (first | apply Kd.R_alloc | apply Kd.R_drewN | apply Kd.R_drew)); exact HO_6.out) hg (.inl rfl)); have n2_ := Aside0.mk (hp_); have n3_ := Aside0.mk ((by rw [hw]; exact below_set (HB.out) GB35.out : Below w.heap.size w w38)); clear HO_5; clear HO_6; clear HO_8; clear HB; have HO_5 := n0_; have HO_6 := n1_; have HO_8 := n2_; have HB := n3_; clear n0_ n1_ n2_ n3_; clear hg hw hp_))
                                go_roundg k4
                                case measure => have := HJ2.out; have := HJ14.out; have := HK3.out; have := HK4.out; omega
                                case rel => exact ⟨(y365), (wrap64 (x10_4 + 1)), (by first | rfl | (simp; done) | (simp [*]; done)), H', ⟨by have := HJ2.out; have := HJ14.out; have := HK3.out; have := HK4.out; omega⟩, ⟨by (with_reducible repeat (first | apply Kd.R_alloc | apply Kd.R_drewN | apply Kd.R_drew)); exact HO_5.out⟩, ⟨by (with_reducible repeat (first | apply Kd.R_alloc | apply Kd.R_drewN | apply Kd.R_drew)); exact HO_6.out⟩, ⟨by (with_reducible repeat (first | apply Kd.R_alloc | apply Kd.R_drewN | apply Kd.R_drew)); exact HO_8.out⟩, ⟨by repeat (first | (with_reducible first | exact HB.out | apply below_alloc | apply pw_below_drewN | apply below_drew1) | exact HB.out)⟩⟩
                              · rw [if_neg c34] at H
                                exact absurd H (by simp)
                            · rw [if_neg c33] at H
                              have c33b0 : decide (x10_4 < (x8_4.length : Int)) = false := decide_eq_false c33
                              clear c33
                              replace H := Option.bind_eq_some_iff.mp H
                              obtain ⟨t366, A390, H⟩ := H
                              replace H : (if t366 = true then ((folkmootref05_Same.f k4 y351 l1).bind fun t367 => (some t367)) else (some false)) = some r := H
                              have A39 := Aside0.mk A390
                              clear A390
                              by_cases c40 : t366 = true
                              · subst c40
                                have H1 : ((folkmootref05_Same.f k4 y351 l1).bind fun t367 => (some t367)) = some r := by rw [if_pos rfl] at H; exact H
                                clear H
                                have H := H1
                                clear H1
                                replace H := Option.bind_eq_some_iff.mp H
                                obtain ⟨t367, A410, H⟩ := H
                                replace H : (some t367) = some r := H
                                have A41 := Aside0.mk A410
                                clear A410
                                obtain rfl := Option.some.inj H
                                obtain ⟨Ao42, co42, eo42⟩ := Kd.R_slice HO_8.out
                                subst eo42
                                go_wp2_with (first | ((with_reducible refine gate_callee (f := 30) rfl ?_); refine goesL_ (some 73) rfl rfl Try.func30 (by kernel_rfl) rfl #[.slice Ao18 y348.length co18, .slice A0 l0.length c0] rfl (by (try simp only [List.map_toArray, List.map_cons, List.map_nil]); first | done | rfl | (simp only [List.length_drop, List.length_take]; rfl)) ?_; (with_reducible refine (folkmootref05_Same.calls k4 _ _ y348 _ _ l0 true _ ?side1 ?side2 ?side3 ?side4 A39.out).mono ?_); (case side1 => repeat (first | exact (Kd.R_reads' HO_5.out).2.2 | (with_reducible refine Kd.C_alloc ?_ _) | (with_reducible refine Kd.C_drewN ?_ _) | (with_reducible refine Kd.C_drew ?_))); (case side2 => exact (Kd.R_reads' HO_5.out).2.1); (case side3 => repeat (first | exact (Kd.C_below HR0.out HB.out) | (with_reducible refine Kd.C_alloc ?_ _) | (with_reducible refine Kd.C_drewN ?_ _) | (with_reducible refine Kd.C_drew ?_))); (case side4 => exact HC0.out); rintro e w' ⟨rfl, ⟨nd, rfl⟩⟩; refine ⟨_, rfl, ?_⟩) | (go_at_call 30; (with_reducible refine (folkmootref05_Same.calls k4 _ _ y351 _ _ l1 t367 _ ?side1 ?side2 ?side3 ?side4 A41.out).mono ?_); (case side1 => repeat (first | exact (Kd.R_reads' HO_6.out).2.2 | (with_reducible refine Kd.C_alloc ?_ _) | (with_reducible refine Kd.C_drewN ?_ _) | (with_reducible refine Kd.C_drew ?_))); (case side2 => exact (Kd.R_reads' HO_6.out).2.1); (case side3 => repeat (first | exact (Kd.C_below HR1.out (by repeat (first | (with_reducible first | exact HB.out | apply below_alloc | apply pw_below_drewN | apply below_drew1) | exact HB.out))) | (with_reducible refine Kd.C_alloc ?_ _) | (with_reducible refine Kd.C_drewN ?_ _) | (with_reducible refine Kd.C_drew ?_))); (case side4 => exact HC1.out); rintro e w' ⟨rfl, ⟨nd, rfl⟩⟩))
                                go_ret
                                exact ⟨by first | rfl | (simp [errW_none, errW_some] <;> rfl) | (simp [*, errW_none, errW_some] <;> rfl), by repeat (first | (with_reducible first | exact HB.out | apply below_alloc | apply pw_below_drewN | apply below_drew1) | exact HB.out)⟩
                              · replace c40 := Bool.eq_false_iff.mpr c40
                                subst c40
                                have H1 : (some false) = some r := by rw [if_neg (show ¬ (false = true) by decide)] at H; exact H
                                clear H
                                have H := H1
                                clear H1
                                obtain rfl := Option.some.inj H
                                obtain ⟨Ao43, co43, eo43⟩ := Kd.R_slice HO_8.out
                                subst eo43
                                go_wp2_with (first | ((with_reducible refine gate_callee (f := 30) rfl ?_); refine goesL_ (some 73) rfl rfl Try.func30 (by kernel_rfl) rfl #[.slice Ao18 y348.length co18, .slice A0 l0.length c0] rfl (by (try simp only [List.map_toArray, List.map_cons, List.map_nil]); first | done | rfl | (simp only [List.length_drop, List.length_take]; rfl)) ?_; (with_reducible refine (folkmootref05_Same.calls k4 _ _ y348 _ _ l0 false _ ?side1 ?side2 ?side3 ?side4 A39.out).mono ?_); (case side1 => repeat (first | exact (Kd.R_reads' HO_5.out).2.2 | (with_reducible refine Kd.C_alloc ?_ _) | (with_reducible refine Kd.C_drewN ?_ _) | (with_reducible refine Kd.C_drew ?_))); (case side2 => exact (Kd.R_reads' HO_5.out).2.1); (case side3 => repeat (first | exact (Kd.C_below HR0.out HB.out) | (with_reducible refine Kd.C_alloc ?_ _) | (with_reducible refine Kd.C_drewN ?_ _) | (with_reducible refine Kd.C_drew ?_))); (case side4 => exact HC0.out); rintro e w' ⟨rfl, ⟨nd, rfl⟩⟩; refine ⟨_, rfl, ?_⟩))
                                go_ret
                                exact ⟨by first | rfl | (simp [errW_none, errW_some] <;> rfl) | (simp [*, errW_none, errW_some] <;> rfl), by repeat (first | (with_reducible first | exact HB.out | apply below_alloc | apply pw_below_drewN | apply below_drew1) | exact HB.out)⟩
          · rw [if_neg c12] at H
            exact absurd H (by simp)
        · rw [if_neg c11] at H
          exact absurd H (by simp)

end Go.Proofs.Ytioooiflpabngaa.PAll

namespace Go.Proofs.Ytioooiflpabngaa.PAll
open Go.RowKit Go.Proofs.YtioooiflpabngaaW.PrintWords
set_option linter.unusedVariables false
set_option linter.unusedSimpArgs false
theorem behindL_length (l m : List S27) : (behindL l m).length ≤ l.length + m.length := by
  have h1 := List.length_filter_le (fun x => !memL x l) (sortL m)
  have h2 := sortL_length m
  simp only [behindL, List.length_append]
  omega
theorem keepsL_last (a b : List S27) (ha : a.length < 9223372036854775807) (hb : b.length < 9223372036854775807) : ∀ (n i : Nat) (y : List S27), n = y.length - i → i ≤ y.length → y.length < 9223372036854775807 → Ev (fun k => folkmootlaw05_LabelKeeps.l1 k a b a b y (i : Int)) true := by
  intro n
  induction n with
  | zero =>
    intro i y hd hi hy
    refine Ev.step (fun k => by rw [folkmootlaw05_LabelKeeps.l1, if_neg (by omega)]) (Ev.bind (sameL_ev a ha) ?_)
    simp only [if_true]
    exact Ev.bind (sameL_ev b hb) (Ev.const fun _ => rfl)
  | succ n ih =>
    intro i y hd hi hy
    refine Ev.step (b := fun k => folkmootlaw05_LabelKeeps.l1 k a b a b (y.set i ⟨⟨(rd_T27 y (i : Int)).f0.f0, (rd_T27 y (i : Int)).f0.f1⟩, IntKind.u64.wrap ((rd_T27 y (i : Int)).f1 + 1), (rd_T27 y (i : Int)).f2⟩) ((i + 1 : Nat) : Int)) (fun k => ?_) (ih (i + 1) (y.set i ⟨⟨(rd_T27 y (i : Int)).f0.f0, (rd_T27 y (i : Int)).f0.f1⟩, IntKind.u64.wrap ((rd_T27 y (i : Int)).f1 + 1), (rd_T27 y (i : Int)).f2⟩) (by rw [List.length_set]; omega) (by rw [List.length_set]; omega) (by rw [List.length_set]; omega))
    rw [folkmootlaw05_LabelKeeps.l1, if_pos (by omega), if_pos (by omega), wrap_nat (by omega), Int.toNat_natCast]
theorem keepsL_first (a b y : List S27) (ha : a.length < 9223372036854775807) (hb : b.length < 9223372036854775807) (hy : y.length < 9223372036854775807) : ∀ (n i : Nat) (x : List S27), n = x.length - i → i ≤ x.length → x.length < 9223372036854775807 → Ev (fun k => folkmootlaw05_LabelKeeps.l0 k a b a b x y (i : Int)) true := by
  intro n
  induction n with
  | zero =>
    intro i x hd hi hx
    exact Ev.step (fun k => by rw [folkmootlaw05_LabelKeeps.l0, if_neg (by omega)]; rfl) (keepsL_last a b ha hb y.length 0 y rfl (Nat.zero_le _) hy)
  | succ n ih =>
    intro i x hd hi hx
    refine Ev.step (b := fun k => folkmootlaw05_LabelKeeps.l0 k a b a b (x.set i ⟨⟨(rd_T27 x (i : Int)).f0.f0, (rd_T27 x (i : Int)).f0.f1⟩, IntKind.u64.wrap ((rd_T27 x (i : Int)).f1 + 1), (rd_T27 x (i : Int)).f2⟩) y ((i + 1 : Nat) : Int)) (fun k => ?_) (ih (i + 1) (x.set i ⟨⟨(rd_T27 x (i : Int)).f0.f0, (rd_T27 x (i : Int)).f0.f1⟩, IntKind.u64.wrap ((rd_T27 x (i : Int)).f1 + 1), (rd_T27 x (i : Int)).f2⟩) (by rw [List.length_set]; omega) (by rw [List.length_set]; omega) (by rw [List.length_set]; omega))
    rw [folkmootlaw05_LabelKeeps.l0, if_pos (by omega), if_pos (by omega), wrap_nat (by omega), Int.toNat_natCast]
theorem pure_LabelKeeps (l0 l1 : List S27) (h0 : rightLs l0) (h1 : rightLs l1) :
    ∃ k, folkmootlaw05_LabelKeeps.f k l0 l1 = some true := by
  refine Ev.get ?_
  unfold folkmootlaw05_LabelKeeps.f folkmootlaw05_awake.f
  simp only [Option.bind_some, if_true]
  have z0 := rightLs_len h0
  have z1 := rightLs_len h1
  have e1 : wrap64 ((l0.length : Int) + (l1.length : Int)) = (l0.length : Int) + (l1.length : Int) := by unfold wrap64; omega
  rw [e1]
  by_cases hl : l0.length + l1.length > 100
  · refine Ev.step (b := fun _ => some true) (fun k => ?_) (Ev.const fun _ => rfl)
    rw [folkmootlaw05_LabelKeeps.j0, if_pos (by simp; omega)]
    rfl
  · have c0 : l0.length < 4398046511104 := by omega
    have c1 : l1.length < 4398046511104 := by omega
    have hb := behindL_length l0 l1
    have hs := sortL_length l1
    refine Ev.step (fun k => by rw [folkmootlaw05_LabelKeeps.j0, if_neg (by simp; omega)]) ?_
    simp only [List.length_nil, Nat.zero_add, c0, c1, if_true, List.nil_append, Option.bind_some, behind_eq (show l0.length + l1.length < 4398046511104 by omega), sort_eq c1]
    refine Ev.bind (sameL_ev l0 (by omega)) ?_
    simp only [if_true]
    refine Ev.bind (sameL_ev l1 (by omega)) ?_
    refine Ev.step (fun k => by rw [folkmootlaw05_LabelKeeps.j1, if_neg (by simp)]) ?_
    exact keepsL_first l0 l1 (sortL l1) (by omega) (by omega) (by omega) (behindL l0 l1).length 0 (behindL l0 l1) rfl (Nat.zero_le _) (by omega)
end Go.Proofs.Ytioooiflpabngaa.PAll

namespace Go.Proofs.Ytioooiflpabngaa
theorem head_signs : Try.prog.initOrder.toList = [104, 97, 114, 110, 101, 115, 115, 32, 98, 100, 54, 52, 55, 100, 48, 52, 56, 99, 56, 57, 55, 50, 49, 57, 98, 52, 100, 49, 52, 51, 55, 98, 57, 48, 102, 102, 48, 56, 49, 50, 49, 53, 100, 52, 49, 53, 51, 54, 99, 100, 49, 54, 52, 54, 49, 100, 52, 97, 49, 97, 54, 54, 102, 52, 101, 56, 53, 55, 97, 101, 50, 55, 32, 99, 117, 116, 32, 97, 116, 32, 102, 111, 108, 107, 109, 111, 111, 116, 47, 102, 111, 108, 107, 109, 111, 111, 116, 108, 97, 119, 49, 53, 46, 67, 111, 110, 116, 101, 110, 116, 70, 105, 110, 100, 115, 32, 102, 111, 108, 107, 109, 111, 111, 116, 47, 102, 111, 108, 107, 109, 111, 111, 116, 108, 97, 119, 49, 53, 46, 67, 111, 110, 116, 101, 110, 116, 75, 101, 101, 112, 115, 32, 102, 111, 108, 107, 109, 111, 111, 116, 47, 102, 111, 108, 107, 109, 111, 111, 116, 108, 97, 119, 49, 53, 46, 67, 111, 110, 116, 101, 110, 116, 77, 101, 114, 103, 101, 115, 32, 102, 111, 108, 107, 109, 111, 111, 116, 47, 102, 111, 108, 107, 109, 111, 111, 116, 108, 97, 119, 49, 53, 46, 67, 111, 110, 116, 101, 110, 116, 79, 114, 100, 101, 114, 32, 102, 111, 108, 107, 109, 111, 111, 116, 47, 102, 111, 108, 107, 109, 111, 111, 116, 108, 97, 119, 48, 53, 46, 76, 97, 98, 101, 108, 75, 101, 101, 112, 115, 32, 102, 111, 108, 107, 109, 111, 111, 116, 47, 102, 111, 108, 107, 109, 111, 111, 116, 108, 97, 119, 48, 53, 46, 76, 97, 98, 101, 108, 80, 97, 114, 116, 115, 32, 102, 111, 108, 107, 109, 111, 111, 116, 47, 102, 111, 108, 107, 109, 111, 111, 116, 108, 97, 119, 48, 53, 46, 76, 97, 98, 101, 108, 83, 111, 114, 116, 115, 32, 102, 111, 108, 107, 109, 111, 111, 116, 47, 102, 111, 108, 107, 109, 111, 111, 116, 108, 97, 119, 48, 53, 46, 76, 97, 98, 101, 108, 66, 101, 104, 105, 110, 100, 32, 102, 111, 108, 107, 109, 111, 111, 116, 47, 102, 111, 108, 107, 109, 111, 111, 116, 108, 97, 119, 48, 53, 46, 76, 97, 98, 101, 108, 79, 114, 100, 101, 114, 32, 102, 111, 108, 107, 109, 111, 111, 116, 47, 102, 111, 108, 107, 109, 111, 111, 116, 108, 97, 119, 49, 53, 46, 67, 111, 110, 116, 101, 110, 116, 65, 112, 97, 114, 116, 32, 102, 111, 108, 107, 109, 111, 111, 116, 47, 102, 111, 108, 107, 109, 111, 111, 116, 108, 97, 119, 49, 53, 46, 67, 111, 110, 116, 101, 110, 116, 79, 110, 101, 32, 102, 111, 108, 107, 109, 111, 111, 116, 47, 102, 111, 108, 107, 109, 111, 111, 116, 108, 97, 119, 49, 53, 46, 67, 111, 110, 116, 101, 110, 116, 82, 101, 97, 100, 115, 32, 102, 111, 108, 107, 109, 111, 111, 116, 47, 102, 111, 108, 107, 109, 111, 111, 116, 108, 97, 119, 49, 53, 46, 67, 111, 110, 116, 101, 110, 116, 65, 108, 108, 32, 102, 111, 108, 107, 109, 111, 111, 116, 47, 102, 111, 108, 107, 109, 111, 111, 116, 108, 97, 119, 49, 54, 46, 69, 120, 99, 104, 97, 110, 103, 101, 80, 108, 97, 121, 115, 32, 102, 111, 108, 107, 109, 111, 111, 116, 47, 102, 111, 108, 107, 109, 111, 111, 116, 108, 97, 119, 49, 54, 46, 69, 120, 99, 104, 97, 110, 103, 101, 84, 117, 114, 110, 101, 100, 32, 102, 111, 108, 107, 109, 111, 111, 116, 47, 102, 111, 108, 107, 109, 111, 111, 116, 108, 97, 119, 49, 54, 46, 69, 120, 99, 104, 97, 110, 103, 101, 70, 117, 108, 108, 32, 102, 111, 108, 107, 109, 111, 111, 116, 47, 102, 111, 108, 107, 109, 111, 111, 116, 108, 97, 119, 49, 54, 46, 69, 120, 99, 104, 97, 110, 103, 101, 75, 101, 101, 112, 115, 32, 102, 111, 108, 107, 109, 111, 111, 116, 47, 102, 111, 108, 107, 109, 111, 111, 116, 108, 97, 119, 49, 54, 46, 69, 120, 99, 104, 97, 110, 103, 101, 79, 110, 101, 32, 102, 111, 108, 107, 109, 111, 111, 116, 47, 102, 111, 108, 107, 109, 111, 111, 116, 108, 97, 119, 49, 54, 46, 69, 120, 99, 104, 97, 110, 103, 101, 77, 111, 114, 101].map Char.ofNat := by
  have h : Try.prog.initOrder = String.ofList ([104, 97, 114, 110, 101, 115, 115, 32, 98, 100, 54, 52, 55, 100, 48, 52, 56, 99, 56, 57, 55, 50, 49, 57, 98, 52, 100, 49, 52, 51, 55, 98, 57, 48, 102, 102, 48, 56, 49, 50, 49, 53, 100, 52, 49, 53, 51, 54, 99, 100, 49, 54, 52, 54, 49, 100, 52, 97, 49, 97, 54, 54, 102, 52, 101, 56, 53, 55, 97, 101, 50, 55, 32, 99, 117, 116, 32, 97, 116, 32, 102, 111, 108, 107, 109, 111, 111, 116, 47, 102, 111, 108, 107, 109, 111, 111, 116, 108, 97, 119, 49, 53, 46, 67, 111, 110, 116, 101, 110, 116, 70, 105, 110, 100, 115, 32, 102, 111, 108, 107, 109, 111, 111, 116, 47, 102, 111, 108, 107, 109, 111, 111, 116, 108, 97, 119, 49, 53, 46, 67, 111, 110, 116, 101, 110, 116, 75, 101, 101, 112, 115, 32, 102, 111, 108, 107, 109, 111, 111, 116, 47, 102, 111, 108, 107, 109, 111, 111, 116, 108, 97, 119, 49, 53, 46, 67, 111, 110, 116, 101, 110, 116, 77, 101, 114, 103, 101, 115, 32, 102, 111, 108, 107, 109, 111, 111, 116, 47, 102, 111, 108, 107, 109, 111, 111, 116, 108, 97, 119, 49, 53, 46, 67, 111, 110, 116, 101, 110, 116, 79, 114, 100, 101, 114, 32, 102, 111, 108, 107, 109, 111, 111, 116, 47, 102, 111, 108, 107, 109, 111, 111, 116, 108, 97, 119, 48, 53, 46, 76, 97, 98, 101, 108, 75, 101, 101, 112, 115, 32, 102, 111, 108, 107, 109, 111, 111, 116, 47, 102, 111, 108, 107, 109, 111, 111, 116, 108, 97, 119, 48, 53, 46, 76, 97, 98, 101, 108, 80, 97, 114, 116, 115, 32, 102, 111, 108, 107, 109, 111, 111, 116, 47, 102, 111, 108, 107, 109, 111, 111, 116, 108, 97, 119, 48, 53, 46, 76, 97, 98, 101, 108, 83, 111, 114, 116, 115, 32, 102, 111, 108, 107, 109, 111, 111, 116, 47, 102, 111, 108, 107, 109, 111, 111, 116, 108, 97, 119, 48, 53, 46, 76, 97, 98, 101, 108, 66, 101, 104, 105, 110, 100, 32, 102, 111, 108, 107, 109, 111, 111, 116, 47, 102, 111, 108, 107, 109, 111, 111, 116, 108, 97, 119, 48, 53, 46, 76, 97, 98, 101, 108, 79, 114, 100, 101, 114, 32, 102, 111, 108, 107, 109, 111, 111, 116, 47, 102, 111, 108, 107, 109, 111, 111, 116, 108, 97, 119, 49, 53, 46, 67, 111, 110, 116, 101, 110, 116, 65, 112, 97, 114, 116, 32, 102, 111, 108, 107, 109, 111, 111, 116, 47, 102, 111, 108, 107, 109, 111, 111, 116, 108, 97, 119, 49, 53, 46, 67, 111, 110, 116, 101, 110, 116, 79, 110, 101, 32, 102, 111, 108, 107, 109, 111, 111, 116, 47, 102, 111, 108, 107, 109, 111, 111, 116, 108, 97, 119, 49, 53, 46, 67, 111, 110, 116, 101, 110, 116, 82, 101, 97, 100, 115, 32, 102, 111, 108, 107, 109, 111, 111, 116, 47, 102, 111, 108, 107, 109, 111, 111, 116, 108, 97, 119, 49, 53, 46, 67, 111, 110, 116, 101, 110, 116, 65, 108, 108, 32, 102, 111, 108, 107, 109, 111, 111, 116, 47, 102, 111, 108, 107, 109, 111, 111, 116, 108, 97, 119, 49, 54, 46, 69, 120, 99, 104, 97, 110, 103, 101, 80, 108, 97, 121, 115, 32, 102, 111, 108, 107, 109, 111, 111, 116, 47, 102, 111, 108, 107, 109, 111, 111, 116, 108, 97, 119, 49, 54, 46, 69, 120, 99, 104, 97, 110, 103, 101, 84, 117, 114, 110, 101, 100, 32, 102, 111, 108, 107, 109, 111, 111, 116, 47, 102, 111, 108, 107, 109, 111, 111, 116, 108, 97, 119, 49, 54, 46, 69, 120, 99, 104, 97, 110, 103, 101, 70, 117, 108, 108, 32, 102, 111, 108, 107, 109, 111, 111, 116, 47, 102, 111, 108, 107, 109, 111, 111, 116, 108, 97, 119, 49, 54, 46, 69, 120, 99, 104, 97, 110, 103, 101, 75, 101, 101, 112, 115, 32, 102, 111, 108, 107, 109, 111, 111, 116, 47, 102, 111, 108, 107, 109, 111, 111, 116, 108, 97, 119, 49, 54, 46, 69, 120, 99, 104, 97, 110, 103, 101, 79, 110, 101, 32, 102, 111, 108, 107, 109, 111, 111, 116, 47, 102, 111, 108, 107, 109, 111, 111, 116, 108, 97, 119, 49, 54, 46, 69, 120, 99, 104, 97, 110, 103, 101, 77, 111, 114, 101].map Char.ofNat) := by kernel_rfl
  rw [h, String.toList_ofList]
theorem head_words : wordsSigns ([104, 97, 114, 110, 101, 115, 115, 32, 98, 100, 54, 52, 55, 100, 48, 52, 56, 99, 56, 57, 55, 50, 49, 57, 98, 52, 100, 49, 52, 51, 55, 98, 57, 48, 102, 102, 48, 56, 49, 50, 49, 53, 100, 52, 49, 53, 51, 54, 99, 100, 49, 54, 52, 54, 49, 100, 52, 97, 49, 97, 54, 54, 102, 52, 101, 56, 53, 55, 97, 101, 50, 55, 32, 99, 117, 116, 32, 97, 116, 32, 102, 111, 108, 107, 109, 111, 111, 116, 47, 102, 111, 108, 107, 109, 111, 111, 116, 108, 97, 119, 49, 53, 46, 67, 111, 110, 116, 101, 110, 116, 70, 105, 110, 100, 115, 32, 102, 111, 108, 107, 109, 111, 111, 116, 47, 102, 111, 108, 107, 109, 111, 111, 116, 108, 97, 119, 49, 53, 46, 67, 111, 110, 116, 101, 110, 116, 75, 101, 101, 112, 115, 32, 102, 111, 108, 107, 109, 111, 111, 116, 47, 102, 111, 108, 107, 109, 111, 111, 116, 108, 97, 119, 49, 53, 46, 67, 111, 110, 116, 101, 110, 116, 77, 101, 114, 103, 101, 115, 32, 102, 111, 108, 107, 109, 111, 111, 116, 47, 102, 111, 108, 107, 109, 111, 111, 116, 108, 97, 119, 49, 53, 46, 67, 111, 110, 116, 101, 110, 116, 79, 114, 100, 101, 114, 32, 102, 111, 108, 107, 109, 111, 111, 116, 47, 102, 111, 108, 107, 109, 111, 111, 116, 108, 97, 119, 48, 53, 46, 76, 97, 98, 101, 108, 75, 101, 101, 112, 115, 32, 102, 111, 108, 107, 109, 111, 111, 116, 47, 102, 111, 108, 107, 109, 111, 111, 116, 108, 97, 119, 48, 53, 46, 76, 97, 98, 101, 108, 80, 97, 114, 116, 115, 32, 102, 111, 108, 107, 109, 111, 111, 116, 47, 102, 111, 108, 107, 109, 111, 111, 116, 108, 97, 119, 48, 53, 46, 76, 97, 98, 101, 108, 83, 111, 114, 116, 115, 32, 102, 111, 108, 107, 109, 111, 111, 116, 47, 102, 111, 108, 107, 109, 111, 111, 116, 108, 97, 119, 48, 53, 46, 76, 97, 98, 101, 108, 66, 101, 104, 105, 110, 100, 32, 102, 111, 108, 107, 109, 111, 111, 116, 47, 102, 111, 108, 107, 109, 111, 111, 116, 108, 97, 119, 48, 53, 46, 76, 97, 98, 101, 108, 79, 114, 100, 101, 114, 32, 102, 111, 108, 107, 109, 111, 111, 116, 47, 102, 111, 108, 107, 109, 111, 111, 116, 108, 97, 119, 49, 53, 46, 67, 111, 110, 116, 101, 110, 116, 65, 112, 97, 114, 116, 32, 102, 111, 108, 107, 109, 111, 111, 116, 47, 102, 111, 108, 107, 109, 111, 111, 116, 108, 97, 119, 49, 53, 46, 67, 111, 110, 116, 101, 110, 116, 79, 110, 101, 32, 102, 111, 108, 107, 109, 111, 111, 116, 47, 102, 111, 108, 107, 109, 111, 111, 116, 108, 97, 119, 49, 53, 46, 67, 111, 110, 116, 101, 110, 116, 82, 101, 97, 100, 115, 32, 102, 111, 108, 107, 109, 111, 111, 116, 47, 102, 111, 108, 107, 109, 111, 111, 116, 108, 97, 119, 49, 53, 46, 67, 111, 110, 116, 101, 110, 116, 65, 108, 108, 32, 102, 111, 108, 107, 109, 111, 111, 116, 47, 102, 111, 108, 107, 109, 111, 111, 116, 108, 97, 119, 49, 54, 46, 69, 120, 99, 104, 97, 110, 103, 101, 80, 108, 97, 121, 115, 32, 102, 111, 108, 107, 109, 111, 111, 116, 47, 102, 111, 108, 107, 109, 111, 111, 116, 108, 97, 119, 49, 54, 46, 69, 120, 99, 104, 97, 110, 103, 101, 84, 117, 114, 110, 101, 100, 32, 102, 111, 108, 107, 109, 111, 111, 116, 47, 102, 111, 108, 107, 109, 111, 111, 116, 108, 97, 119, 49, 54, 46, 69, 120, 99, 104, 97, 110, 103, 101, 70, 117, 108, 108, 32, 102, 111, 108, 107, 109, 111, 111, 116, 47, 102, 111, 108, 107, 109, 111, 111, 116, 108, 97, 119, 49, 54, 46, 69, 120, 99, 104, 97, 110, 103, 101, 75, 101, 101, 112, 115, 32, 102, 111, 108, 107, 109, 111, 111, 116, 47, 102, 111, 108, 107, 109, 111, 111, 116, 108, 97, 119, 49, 54, 46, 69, 120, 99, 104, 97, 110, 103, 101, 79, 110, 101, 32, 102, 111, 108, 107, 109, 111, 111, 116, 47, 102, 111, 108, 107, 109, 111, 111, 116, 108, 97, 119, 49, 54, 46, 69, 120, 99, 104, 97, 110, 103, 101, 77, 111, 114, 101].map Char.ofNat) = [[104, 97, 114, 110, 101, 115, 115], [98, 100, 54, 52, 55, 100, 48, 52, 56, 99, 56, 57, 55, 50, 49, 57, 98, 52, 100, 49, 52, 51, 55, 98, 57, 48, 102, 102, 48, 56, 49, 50, 49, 53, 100, 52, 49, 53, 51, 54, 99, 100, 49, 54, 52, 54, 49, 100, 52, 97, 49, 97, 54, 54, 102, 52, 101, 56, 53, 55, 97, 101, 50, 55], [99, 117, 116], [97, 116], [102, 111, 108, 107, 109, 111, 111, 116, 47, 102, 111, 108, 107, 109, 111, 111, 116, 108, 97, 119, 49, 53, 46, 67, 111, 110, 116, 101, 110, 116, 70, 105, 110, 100, 115], [102, 111, 108, 107, 109, 111, 111, 116, 47, 102, 111, 108, 107, 109, 111, 111, 116, 108, 97, 119, 49, 53, 46, 67, 111, 110, 116, 101, 110, 116, 75, 101, 101, 112, 115], [102, 111, 108, 107, 109, 111, 111, 116, 47, 102, 111, 108, 107, 109, 111, 111, 116, 108, 97, 119, 49, 53, 46, 67, 111, 110, 116, 101, 110, 116, 77, 101, 114, 103, 101, 115], [102, 111, 108, 107, 109, 111, 111, 116, 47, 102, 111, 108, 107, 109, 111, 111, 116, 108, 97, 119, 49, 53, 46, 67, 111, 110, 116, 101, 110, 116, 79, 114, 100, 101, 114], [102, 111, 108, 107, 109, 111, 111, 116, 47, 102, 111, 108, 107, 109, 111, 111, 116, 108, 97, 119, 48, 53, 46, 76, 97, 98, 101, 108, 75, 101, 101, 112, 115], [102, 111, 108, 107, 109, 111, 111, 116, 47, 102, 111, 108, 107, 109, 111, 111, 116, 108, 97, 119, 48, 53, 46, 76, 97, 98, 101, 108, 80, 97, 114, 116, 115], [102, 111, 108, 107, 109, 111, 111, 116, 47, 102, 111, 108, 107, 109, 111, 111, 116, 108, 97, 119, 48, 53, 46, 76, 97, 98, 101, 108, 83, 111, 114, 116, 115], [102, 111, 108, 107, 109, 111, 111, 116, 47, 102, 111, 108, 107, 109, 111, 111, 116, 108, 97, 119, 48, 53, 46, 76, 97, 98, 101, 108, 66, 101, 104, 105, 110, 100], [102, 111, 108, 107, 109, 111, 111, 116, 47, 102, 111, 108, 107, 109, 111, 111, 116, 108, 97, 119, 48, 53, 46, 76, 97, 98, 101, 108, 79, 114, 100, 101, 114], [102, 111, 108, 107, 109, 111, 111, 116, 47, 102, 111, 108, 107, 109, 111, 111, 116, 108, 97, 119, 49, 53, 46, 67, 111, 110, 116, 101, 110, 116, 65, 112, 97, 114, 116], [102, 111, 108, 107, 109, 111, 111, 116, 47, 102, 111, 108, 107, 109, 111, 111, 116, 108, 97, 119, 49, 53, 46, 67, 111, 110, 116, 101, 110, 116, 79, 110, 101], [102, 111, 108, 107, 109, 111, 111, 116, 47, 102, 111, 108, 107, 109, 111, 111, 116, 108, 97, 119, 49, 53, 46, 67, 111, 110, 116, 101, 110, 116, 82, 101, 97, 100, 115], [102, 111, 108, 107, 109, 111, 111, 116, 47, 102, 111, 108, 107, 109, 111, 111, 116, 108, 97, 119, 49, 53, 46, 67, 111, 110, 116, 101, 110, 116, 65, 108, 108], [102, 111, 108, 107, 109, 111, 111, 116, 47, 102, 111, 108, 107, 109, 111, 111, 116, 108, 97, 119, 49, 54, 46, 69, 120, 99, 104, 97, 110, 103, 101, 80, 108, 97, 121, 115], [102, 111, 108, 107, 109, 111, 111, 116, 47, 102, 111, 108, 107, 109, 111, 111, 116, 108, 97, 119, 49, 54, 46, 69, 120, 99, 104, 97, 110, 103, 101, 84, 117, 114, 110, 101, 100], [102, 111, 108, 107, 109, 111, 111, 116, 47, 102, 111, 108, 107, 109, 111, 111, 116, 108, 97, 119, 49, 54, 46, 69, 120, 99, 104, 97, 110, 103, 101, 70, 117, 108, 108], [102, 111, 108, 107, 109, 111, 111, 116, 47, 102, 111, 108, 107, 109, 111, 111, 116, 108, 97, 119, 49, 54, 46, 69, 120, 99, 104, 97, 110, 103, 101, 75, 101, 101, 112, 115], [102, 111, 108, 107, 109, 111, 111, 116, 47, 102, 111, 108, 107, 109, 111, 111, 116, 108, 97, 119, 49, 54, 46, 69, 120, 99, 104, 97, 110, 103, 101, 79, 110, 101], [102, 111, 108, 107, 109, 111, 111, 116, 47, 102, 111, 108, 107, 109, 111, 111, 116, 108, 97, 119, 49, 54, 46, 69, 120, 99, 104, 97, 110, 103, 101, 77, 111, 114, 101]].map (List.map Char.ofNat) := by kernel_rfl
theorem head_behind : ∃ rest, behindMainWord (wordsSigns Try.prog.initOrder.toList) = [99, 117, 116].map Char.ofNat :: rest := by
  rw [head_signs, head_words]
  exact ⟨[[99, 117, 116], [97, 116], [102, 111, 108, 107, 109, 111, 111, 116, 47, 102, 111, 108, 107, 109, 111, 111, 116, 108, 97, 119, 49, 53, 46, 67, 111, 110, 116, 101, 110, 116, 70, 105, 110, 100, 115], [102, 111, 108, 107, 109, 111, 111, 116, 47, 102, 111, 108, 107, 109, 111, 111, 116, 108, 97, 119, 49, 53, 46, 67, 111, 110, 116, 101, 110, 116, 75, 101, 101, 112, 115], [102, 111, 108, 107, 109, 111, 111, 116, 47, 102, 111, 108, 107, 109, 111, 111, 116, 108, 97, 119, 49, 53, 46, 67, 111, 110, 116, 101, 110, 116, 77, 101, 114, 103, 101, 115], [102, 111, 108, 107, 109, 111, 111, 116, 47, 102, 111, 108, 107, 109, 111, 111, 116, 108, 97, 119, 49, 53, 46, 67, 111, 110, 116, 101, 110, 116, 79, 114, 100, 101, 114], [102, 111, 108, 107, 109, 111, 111, 116, 47, 102, 111, 108, 107, 109, 111, 111, 116, 108, 97, 119, 48, 53, 46, 76, 97, 98, 101, 108, 75, 101, 101, 112, 115], [102, 111, 108, 107, 109, 111, 111, 116, 47, 102, 111, 108, 107, 109, 111, 111, 116, 108, 97, 119, 48, 53, 46, 76, 97, 98, 101, 108, 80, 97, 114, 116, 115], [102, 111, 108, 107, 109, 111, 111, 116, 47, 102, 111, 108, 107, 109, 111, 111, 116, 108, 97, 119, 48, 53, 46, 76, 97, 98, 101, 108, 83, 111, 114, 116, 115], [102, 111, 108, 107, 109, 111, 111, 116, 47, 102, 111, 108, 107, 109, 111, 111, 116, 108, 97, 119, 48, 53, 46, 76, 97, 98, 101, 108, 66, 101, 104, 105, 110, 100], [102, 111, 108, 107, 109, 111, 111, 116, 47, 102, 111, 108, 107, 109, 111, 111, 116, 108, 97, 119, 48, 53, 46, 76, 97, 98, 101, 108, 79, 114, 100, 101, 114], [102, 111, 108, 107, 109, 111, 111, 116, 47, 102, 111, 108, 107, 109, 111, 111, 116, 108, 97, 119, 49, 53, 46, 67, 111, 110, 116, 101, 110, 116, 65, 112, 97, 114, 116], [102, 111, 108, 107, 109, 111, 111, 116, 47, 102, 111, 108, 107, 109, 111, 111, 116, 108, 97, 119, 49, 53, 46, 67, 111, 110, 116, 101, 110, 116, 79, 110, 101], [102, 111, 108, 107, 109, 111, 111, 116, 47, 102, 111, 108, 107, 109, 111, 111, 116, 108, 97, 119, 49, 53, 46, 67, 111, 110, 116, 101, 110, 116, 82, 101, 97, 100, 115], [102, 111, 108, 107, 109, 111, 111, 116, 47, 102, 111, 108, 107, 109, 111, 111, 116, 108, 97, 119, 49, 53, 46, 67, 111, 110, 116, 101, 110, 116, 65, 108, 108], [102, 111, 108, 107, 109, 111, 111, 116, 47, 102, 111, 108, 107, 109, 111, 111, 116, 108, 97, 119, 49, 54, 46, 69, 120, 99, 104, 97, 110, 103, 101, 80, 108, 97, 121, 115], [102, 111, 108, 107, 109, 111, 111, 116, 47, 102, 111, 108, 107, 109, 111, 111, 116, 108, 97, 119, 49, 54, 46, 69, 120, 99, 104, 97, 110, 103, 101, 84, 117, 114, 110, 101, 100], [102, 111, 108, 107, 109, 111, 111, 116, 47, 102, 111, 108, 107, 109, 111, 111, 116, 108, 97, 119, 49, 54, 46, 69, 120, 99, 104, 97, 110, 103, 101, 70, 117, 108, 108], [102, 111, 108, 107, 109, 111, 111, 116, 47, 102, 111, 108, 107, 109, 111, 111, 116, 108, 97, 119, 49, 54, 46, 69, 120, 99, 104, 97, 110, 103, 101, 75, 101, 101, 112, 115], [102, 111, 108, 107, 109, 111, 111, 116, 47, 102, 111, 108, 107, 109, 111, 111, 116, 108, 97, 119, 49, 54, 46, 69, 120, 99, 104, 97, 110, 103, 101, 79, 110, 101], [102, 111, 108, 107, 109, 111, 111, 116, 47, 102, 111, 108, 107, 109, 111, 111, 116, 108, 97, 119, 49, 54, 46, 69, 120, 99, 104, 97, 110, 103, 101, 77, 111, 114, 101]].tail.map (List.map Char.ofNat), by kernel_rfl⟩
theorem cut_gc : (([99, 117, 116].map Char.ofNat) == "gc".toList) = false := by kernel_rfl
theorem cut_spec : (([99, 117, 116].map Char.ofNat) == "spec".toList) = false := by kernel_rfl
theorem cut_carried : (([99, 117, 116].map Char.ofNat) == "carried".toList) = false := by kernel_rfl
theorem cut_cut : (([99, 117, 116].map Char.ofNat) == "cut".toList) = true := by kernel_rfl
theorem cut_some (rest : List (List Char)) : ((([99, 117, 116].map Char.ofNat) :: rest).head? == some "cut".toList) = true := cut_cut
theorem cut_strip (rest : List (List Char)) : stripLifts liftWords (([99, 117, 116].map Char.ofNat) :: rest) = ([], ([99, 117, 116].map Char.ofNat) :: rest) := by
  simp only [liftWords, stripLifts]
  rfl
theorem make_of {P : Program} {rest : List (List Char)} (h : behindMainWord (wordsSigns P.initOrder.toList) = [99, 117, 116].map Char.ofNat :: rest) : P.make = some .cut := by
  unfold Program.make
  rw [h]
  simp only [cut_gc, cut_spec, cut_cut, Bool.or_false, Bool.true_or, Bool.false_eq_true, if_false, if_true]
theorem lifts_of {P : Program} {rest : List (List Char)} (h : behindMainWord (wordsSigns P.initOrder.toList) = [99, 117, 116].map Char.ofNat :: rest) : P.liftsFinal = false := by
  unfold Program.liftsFinal Program.headLifts
  rw [h]
  simp only [cut_strip, List.head?_cons]
  show ((([99, 117, 116].map Char.ofNat) == "carried".toList) && _ || _) = false
  rw [cut_carried]
  kernel_rfl
theorem enter_of {P : Program} {rest : List (List Char)} (h : behindMainWord (wordsSigns P.initOrder.toList) = [99, 117, 116].map Char.ofNat :: rest) (h1 : P.laysLater = false) (h2 : P.bearsReflect = false) (h3 : P.doorFits [] = true) : P.mayEnter = true := by
  unfold Program.mayEnter
  rw [h]
  simp only [cut_strip, cut_some, cut_gc, cut_spec, cut_carried, h1, h2, h3, Bool.not_false, Bool.or_true, Bool.and_true, Bool.or_false, Bool.false_and, List.contains_nil]
theorem head_make : Try.prog.make = some .cut := head_behind.elim fun _ h => make_of h
theorem head_lifts : Try.prog.liftsFinal = false := head_behind.elim fun _ h => lifts_of h
theorem head_enter : Try.prog.mayEnter = true := head_behind.elim fun _ h => enter_of h (by kernel_rfl) (by kernel_rfl) (by kernel_rfl)
end Go.Proofs.Ytioooiflpabngaa

namespace Go.Proofs.Ytioooiflpabngaa.labelKeeps
open Go.ChangeShapes Go.WideShapes Go.ChangeAt Go.RowKit Go.Proofs.Ytioooiflpabngaa.PAll
set_option linter.unusedVariables false
theorem own : ownKnob Try.prog.godebug = none := by kernel_rfl
theorem laidOut : laidOutB Try.prog = true := by kernel_rfl
set_option maxRecDepth 100000 in
theorem lifted (os : Os) (started : os.Started) (H : Type) (enc : TypeId × Value → H) :
    ReturnsInHanded {} Try.checked os 7 .any (Rows.labelKeepsSpec.pre6 enc Try.prog Try.f7 Rows.labelKeepsRow.domain false) (Rows.labelKeepsSpec.post enc Try.prog Try.f7 false true false false) := by
  refine returnsInHanded_of_change_sized (C := Try.checked) own started (by kernel_rfl) Try.func7
    (ChangeSpec.witness6 (enc := enc) (C := Try.checked) false ⟨#[], #[.slice none 0 0, .slice none 0 0], []⟩ 8 (by kernel_rfl) (by kernel_rfl) (by kernel_rfl) (by kernel_rfl)) ?_
  intro W base args ds gs before hval0 hW hcnd hsz0 _
  have hsz : (DataW.weightsEach Try.prog (Try.f7.params.toList ++ Rows.labelKeepsSpec.plain.varTypes Try.prog) (ds ++ gs)).all (· ≤ reachBytes) = true := hsz0
  have hval : ∀ (j : Nat) t v, Try.f7.params[j]? = some t → args[j]? = some v → Value.okWide Try.prog W .any base t v := hval0
  have hW' := hW
  obtain ⟨p, q, hA0, hV, rfl, hfz, hnd⟩ := hW
  have hA : DataW.TrodAll enc Try.prog W 0 (fun _ => true) true Try.f7.params.toList args.toList ds p := hA0
  rw [Try.params7] at hA hval hsz
  obtain ⟨v0, vs0, d0, ds0, p0, q0, hargs, rfl, rfl, h0, r0⟩ := trodAll_cons hA
  obtain ⟨v1, vs1, d1, ds1, p1, q1, rfl, rfl, rfl, h1, r1⟩ := trodAll_cons r0
  obtain ⟨rfl, rfl, rfl⟩ := trodAll_nil r1
  obtain rfl : args = #[v0, v1] := by cases args; simp_all
  obtain ⟨rfl, rfl⟩ := trodVars_none hV
  have z0 : ∀ n ∈ d0.weights Try.prog 41, n ≤ reachBytes := fun n hn => of_decide_eq_true (List.all_eq_true.1 hsz _ (DataW.weights_mem_each (j := 0) (t := 41) rfl rfl n hn))
  have k0 := h0
  have lt0 : ∀ x ∈ p0, x.block < W.heap.size := by obtain ⟨m, hm⟩ := k0; exact DataW.trod_lt m _ _ _ hm
  obtain ⟨a0, len0, cap0, rfl⟩ := okWide_slice Try.underlying41 (hval 0 41 v0 rfl rfl)
  obtain ⟨l0, hK0, ok0⟩ := arg_trod opensLs h0 z0
  obtain ⟨rfl, hc0, hr0⟩ := arg_slice hK0
  have z1 : ∀ n ∈ d1.weights Try.prog 41, n ≤ reachBytes := fun n hn => of_decide_eq_true (List.all_eq_true.1 hsz _ (DataW.weights_mem_each (j := 1) (t := 41) rfl rfl n hn))
  have k1 := h1
  have lt1 : ∀ x ∈ p1, x.block < W.heap.size := by obtain ⟨m, hm⟩ := k1; exact DataW.trod_lt m _ _ _ hm
  obtain ⟨a1, len1, cap1, rfl⟩ := okWide_slice Try.underlying41 (hval 1 41 v1 rfl rfl)
  obtain ⟨l1, hK1, ok1⟩ := arg_trod opensLs h1 z1
  obtain ⟨rfl, hc1, hr1⟩ := arg_slice hK1
  clear hA0 hval0 hsz0 hsz
  obtain ⟨k, hp⟩ := pure_LabelKeeps l0 l1 ok0 ok1
  refine (folkmootlaw05_LabelKeeps.calls k _ _ l0 _ _ l1 true W hr0 hc0 hr1 hc1 hp).mono fun e W' ⟨he, bel⟩ => ?_
  subst he
  exact ⟨_, rfl, _, _, _, [], _, [], hW', trodAll_mk1 (shut_bool Try.underlying4 _), (trodAll_cons_mk (Below.trod laidOut (by kernel_rfl) (of_decide_eq_true (by kernel_rfl)) k0 bel lt0) (trodAll_cons_mk (Below.trod laidOut (by kernel_rfl) (of_decide_eq_true (by kernel_rfl)) k1 bel lt1) trodAll_mk0)), rfl, bel.frame _, fun h => by cases h⟩
theorem closed : joinedFacts Try.prog 7 Try.f7 Rows.labelKeepsSpec Rows.labelKeepsRow = true := by
  unfold joinedFacts
  rw [head_enter, head_lifts, head_make]
  kernel_rfl
theorem over : Rows.labelKeepsRow.holds Try.pinned (OpenSpec.ofChange Rows.labelKeepsSpec) :=
  OpenClaim.holds_of_wide 7 Try.f7 rfl rfl rfl rfl rfl rfl rfl ⟨rfl, rfl, rfl, rfl, rfl⟩ rfl rfl rfl rfl rfl (by kernel_rfl) Try.func7 closed
    (of_decide_eq_true (by kernel_rfl)) (by unfold Func.isWrapper; first | (rw [if_pos (by decide +kernel)]; kernel_rfl) | (rw [if_neg (by decide +kernel)]; exact ⟨rfl, rfl⟩))
    (fun os started H enc _ => lifted os started H enc)
theorem proved : Rows.LabelKeepsSaid := over
end Go.Proofs.Ytioooiflpabngaa.labelKeeps
