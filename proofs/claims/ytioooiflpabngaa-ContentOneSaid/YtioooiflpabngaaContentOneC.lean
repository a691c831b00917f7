/- Parts: HIter, HSortA, HSortB, HSort, PAllx39, PAllx48, PAllx49, PAllx50, PAllx51, PAllx46, EAll, PAllx26, HRead, HReadU, HReadB, HReadC, EDec, HDecA, HDecB, HDecC. -/
import Derived.Test.YtioooiflpabngaaContentOneB
import Derived.RangeFuncNested
import Derived.RangeFuncBound
import Derived.RangeFuncCalls
import Derived.RangeFuncLeaves
import Derived.Shelf.Abstract
import Derived.Shelf.RegionOpen
import Derived.WalkKit
import Derived.OwnWalkIn
import Derived.Maps.OwnIn
import Derived.TacticsInMore
import Derived.LoopNIn
import Derived.LoopIn
import Derived.Outline
import Derived.Lib.SlicesCompact
import Derived.WalkSpells
import Derived.Deep.RegionHeld3
import Derived.Deep.DeepCutAuto
import Derived.Shelf.RegionOpenPlain
set_option linter.unusedVariables false
set_option linter.unusedSimpArgs false
section
namespace Go.Proofs.Ytioooiflpabngaa.PAll
open Go.RowKit Go.Shelf Go.Proofs.YtioooiflpabngaaW.PrintWords Go.Proofs.YtioooiflpabngaaW.PrintLast Go.Proofs.YtioooiflpabngaaW.PrintMore
attribute [local go_sem] Oper.semAt_some
set_option linter.unusedVariables false
set_option linter.unusedSimpArgs false
theorem R_append_run {α : Type} {P : Program} (d : Kd α) {w0 W : World} (base : Nat) (t ty e : TypeId) (z : Value) (bytes : Nat)
    (ht : P.underlying t = some (.slice e)) (hinfo : (P.info? e).map (fun i => (i.zero, i.size, i.bytes)) = some (some z, d.sz, bytes)) (hz : z.cells.size = d.sz) (hs0 : 0 < d.sz) (hb0 : 0 < bytes)
    (v : Value) (xs : List α) (p : α) (cs : List Value) (ok okp : Nat → Prop) (hp : d.M W base okp p cs) (hokp : ∀ k, okp k → ok k ∧ some k ≠ v.ownBlock) (hfresh : ∀ k, W.heap.size ≤ k → ok k)
    (HO : d.R e W base ok v xs) (HB : Below base w0 W) (hbase : base ≤ W.heap.size) (hl : (xs.length + 1) * bytes ≤ 140737488355328) :
    ∃ v1 w1, (Builtin.append_ #[t, t] ty #[v, .slice (some ⟨W.heap.size, 0, none⟩) 1 1]).run P (W.alloc (.cells cs.toArray e)) = .ok v1 w1 ∧ d.R e w1 base ok v1 (xs ++ [p]) ∧ Below base w0 w1 ∧ W.grownBy w1 v.ownBlock := by
  obtain ⟨h0, inner, hown, hr⟩ := HO
  obtain ⟨i0, hi, hzz⟩ := Option.map_eq_some_iff.1 hinfo
  simp only [Prod.mk.injEq] at hzz
  obtain ⟨hz0, hz1, hz2⟩ := hzz
  have hlen : xs.length + 1 ≤ 140737488355328 := Nat.le_trans (Nat.le_mul_of_pos_right _ hb0) hl
  have hcl := d.K_len (d.K_of_M hp)
  obtain ⟨v1, w1, hrun, hown1, hg, _, hat⟩ := run_append_own_at (P := P) (W.alloc (.cells cs.toArray e)) base t ty e i0 z d.sz bytes ht hi hz0 hz1 hz2 hz hs0 v xs.length inner (hown.alloc _) ⟨W.heap.size, 0, none⟩ 1 1 cs (by omega)
    (World.news_of_block (cs := cs.toArray) (t := e) (fr := (0, 0)) (heap_alloc_new W _)) (d.K_one (d.K_of_M hp)) (by simp only [maxLen]; omega) hl (by simp; omega)
  have hg1 : W.grownBy w1 v.ownBlock := World.grownBy.trans (World.grownBy_alloc W _ _) hg
  refine ⟨v1, w1, hrun, Kd.R_appended h0 hr hp hokp hfresh hown1 hg1 ?_, (HB.alloc hbase _).grown hg (by simp; omega) (own_base hown), hg1⟩
  rcases hat with hat | hat
  · exact .inl hat
  · exact .inr ⟨_, hat, by simp⟩
theorem RIn_append {α : Type} {F : Fence} {nF : Nat} {P : Program} {ops : Array Oper} {rest : List Oper} {o : Oper} {a : Act} {Q : Exit → Act → World → Prop} (d : Kd α) {w0 W : World} (base : Nat) (hgd : o.guard = none) (s x : Operand) (t e : TypeId) (z : Value) (bytes : Nat)
    (ho : o.op = .call { callee := .builtin .append, args := #[s, x], argTypes := #[t, t] })
    (ht : P.underlying t = some (.slice e)) (hinfo : (P.info? e).map (fun i => (i.zero, i.size, i.bytes)) = some (some z, d.sz, bytes)) (hz : z.cells.size = d.sz) (hs0 : 0 < d.sz) (hb0 : 0 < bytes)
    (v : Value) (xs : List α) (p : α) (cs : List Value) (ok okp : Nat → Prop) (hs : a.eval s = v) (hx : a.eval x = .slice (some ⟨W.heap.size, 0, none⟩) 1 1) (hp : d.M W base okp p cs) (hokp : ∀ k, okp k → ok k ∧ some k ≠ v.ownBlock) (hfresh : ∀ k, W.heap.size ≤ k → ok k)
    (HO : d.R e W base ok v xs) (HB : Below base w0 W) (hbase : base ≤ W.heap.size) (hl : (xs.length + 1) * bytes ≤ 140737488355328)
    (h : ∀ v1 w1, d.R e w1 base ok v1 (xs ++ [p]) → Below base w0 w1 → W.grownBy w1 v.ownBlock → wpListIn F nF P ops Q rest (a.put o.dst v1) w1) :
    wpListIn F nF P ops Q (o :: rest) a (W.alloc (.cells cs.toArray e)) := by
  refine wpListIn_plain hgd fun K hK => ?_
  obtain ⟨v1, w1, hr, h2, h3, h4⟩ := R_append_run (P := P) d (w0 := w0) base t o.type e z bytes ht hinfo hz hs0 hb0 v xs p cs ok okp hp hokp hfresh HO HB hbase hl
  unfold Oper.wpIn
  refine ⟨by simp [Oper.about, ho, resolve, Target.leads, Sem.run_pure], ?_⟩
  rw [Oper.semAt_plain F _ _ (by rw [ho]; intro c hc'; cases hc')]
  simp [execOp, ho, resolve, invoke, builtin, hs, hx, hr, Result.andThen]
  exact hK _ _ (h v1 w1 h2 h3 h4)
theorem valuesL (A : Option Addr) (n c : Nat) (w : World) :
    Calls Try.prog 81 #[.slice A n c] w fun e w' => e = .returned (.func (.func 116) #[] #[.pointer (some ⟨w.heap.size, 0, none⟩)]) ∧ w' = w.alloc (.cells #[.slice A n c] 41) := by
  go_enter Try.func81, Try.ntmps81
  go_wp2
  go_ret
  exact ⟨rfl, rfl⟩
def encL (x : S27) : List Value := [.int .u64 x.f0.f0, .int .i64 x.f0.f1, .int .u64 x.f1, .int .i64 x.f2]
theorem take_snocL (l : List S27) (k : Nat) (h : k < l.length) : l.take (k + 1) = l.take k ++ [rd_T27 l k] := by
  rw [List.take_succ_eq_append_getElem h]
  simp [rd_T27, h]
set_option maxRecDepth 100000 in
set_option maxHeartbeats 4000000 in
theorem values1L_in (F : Fence) (n : Nat) (h7 : F.fn 116) (hro : F.round = none) (hn : 1 ≤ n) (l Bs : Nat) (A : Option Addr) (cap : Nat) (zs : List S27) (w0 : World) (hlen : zs.length < 4398046511104) (HC : Kd.C k27 w0 A zs.length zs) (J Jx : List S27 → World → Prop)
    (hY : ∀ pre x W, J pre W → pre.length < zs.length → YieldAt F (n - 1) Try.prog l #[.agg (encL x).toArray] W fun e W' =>
      (e = .returned (.bool true) ∧ J (pre ++ [x]) W' ∧ Below w0.heap.size W W') ∨ (e = .returned (.bool false) ∧ Jx (pre ++ [x]) W'))
    (hJa : ∀ s W o, J s W → J s (W.alloc o))
    (W : World) (hW : Below w0.heap.size w0 W) (hBs : W.cell? ⟨Bs, 0, none⟩ = some (.slice A zs.length cap)) (h0 : J [] W) :
    CallsIn F n Try.prog 116 #[.func (.yield l) #[] #[], .pointer (some ⟨Bs, 0, none⟩)] W fun e W' => (∃ v, e = .returned v) ∧
      ((∃ ys, ys = zs ∧ J ys W') ∨ (∃ pre, True ∧ Jx pre W')) := by
  have HL := Aside0.mk hlen
  clear hlen
  have HC := Aside0.mk HC
  refine callsIn_of_wp Try.func116 rfl h7 ?_ hro
  simp only [Try.ntmps116, List.size_toArray, List.length_cons, List.length_nil, Nat.reduceAdd, Nat.reduceSub, Array.replicate_succ, Array.replicate_zero, List.push_toArray, List.append_toArray, List.nil_append, List.cons_append]
  gi_wp2
  gi_loopw [7] (fun i wr => ∃ k : Nat, k ≤ zs.length ∧ i = .int .i64 k ∧ J (zs.take k) wr ∧ Aside0 (Below w0.heap.size w0 wr))
    (fun i _ => zs.length - (intOf i).toNat)
  case atStart => exact ⟨0, Nat.zero_le _, rfl, by simpa using h0, ⟨hW⟩⟩
  case round =>
    obtain ⟨k, hk, rfl, hJs, hnx⟩ := hrel
    by_cases hlt : k < zs.length
    · obtain ⟨ad, e, hx0, hx1, hx2, hx3⟩ := at_T27 (Kd.C_below HC.out hnx.out) (k : Int) (by omega) (by omega)
      subst e
      rw [Int.toNat_natCast] at hx0 hx1 hx2 hx3
      obtain ⟨fn, tmps, assign, body, hy, hR⟩ := hY _ (rd_T27 zs k) (wr.alloc (.cells (encL (rd_T27 zs k)).toArray 27)) (hJa _ _ _ hJs) (by rw [List.length_take]; omega)
      simp only [encL] at hy
      have HK := Aside0.mk hk
      clear hk
      have hlt' : (k : Int) < (zs.length : Int) := by omega
      have hz2 := HL.out
      gi_wp2
      refine hR.mono ?_
      rintro e W3 (⟨rfl, hJ3, hk3⟩ | ⟨rfl, hJx3⟩)
      · gi_wp2
        go_roundw
        case rel => exact ⟨k + 1, by omega, by simp, by rw [take_snocL _ _ hlt]; exact hJ3, ⟨(hnx.out.alloc hnx.out.size _).trans hk3⟩⟩
        case measure => simp [intOf]; omega
      · gi_wp2
        refine bodyPost_ret (results_none rfl _ _ _) rfl ?_
        exact ⟨⟨_, rfl⟩, .inr ⟨_, trivial, hJx3⟩⟩
    · obtain rfl : k = zs.length := by omega
      gi_wp2
      go_end0
      exact ⟨⟨_, rfl⟩, .inl ⟨_, rfl, by simpa using hJs⟩⟩
theorem values_stopsL (F : Fence) (n : Nat) (h7 : F.fn 116) (hro : F.round = none) (hn : 1 ≤ n) (Bs : Nat) (A : Option Addr) (cap : Nat) (zs : List S27) (w : World) (hlen : zs.length < 4398046511104) (HC : Kd.C k27 w A zs.length zs) (hBs : w.cell? ⟨Bs, 0, none⟩ = some (.slice A zs.length cap)) :
    SeqStopsK F n Try.prog 116 #[.pointer (some ⟨Bs, 0, none⟩)] (fun x : S27 => #[.agg (encL x).toArray]) (Below w.heap.size) (fun ys => ys = zs) (fun _ => True) zs.length w := fun l J Jx W hW hJ _ hY h0 =>
  values1L_in F n h7 hro hn l Bs A cap zs w hlen HC J Jx hY (fun s W' o hs => hJ s W' _ none hs (World.grownBy_alloc W' o none) (fun r e => by cases e)) W hW ((hW.cell (p := ⟨Bs, 0, none⟩) (World.block_lt_of_cell? w _ hBs)).trans hBs) h0
def IApp (w0 : World) (B : Nat) (pre : List S27) (W : World) : Prop := ∃ v, Boxed W B 41 v ∧ Kd.R k27 27 W w0.heap.size (fun k => k ≠ B) v pre ∧ Below w0.heap.size w0 W
theorem R_others {α : Type} {d : Kd α} {e base B : Nat} {ok : Nat → Prop} {v : Value} {xs : List α} {W W' : World} {row : Option Nat} (h : d.R e W base ok v xs) (hg : W.grownBy W' row) (hr : ∀ r, row = some r → B ≤ r ∧ ∃ o : Obj, W.heap[r]? = some o ∧ o.isCells = false) : d.R e W' base ok v xs :=
  Kd.R_mono (Kd.R_grown (Kd.R_bound h) hg (fun k hk e => by
    obtain ⟨_, o, ho, hc⟩ := hr k e.symm
    obtain ⟨_, _, _, q, _, cells, hcell⟩ := hk
    rw [hcell] at ho
    cases ho
    cases hc)) (fun _ hk => hk.1)
theorem IApp_own (w0 : World) (B B' : Nat) (hB : B < B') (h0 : w0.heap.size ≤ B') : OwnFrom B' (IApp w0 B) := by
  rintro s W W' row ⟨v, hb, hR, hbel⟩ hg hr
  exact ⟨v, hb.kept hg (fun e => by have := (hr B e.symm).1; omega), R_others hR hg hr, hbel.grown hg hbel.size (fun k e => Nat.le_trans h0 (hr k e).1)⟩
def actApp (Bs B B5 : Nat) (x : S27) : Act :=
  { tmps := #[.slice none 0 0, .func (.func 116) #[] #[.pointer (some ⟨Bs, 0, none⟩)], .pointer (some ⟨B, 0, none⟩), undef, .slice none 0 0, .pointer (some ⟨B5, 0, none⟩), .func (.func 116) #[] #[.pointer (some ⟨Bs, 0, none⟩)], .agg (encL x).toArray, undef, undef, undef, undef, undef], defers := [] }
def AxApp (Bs B : Nat) (x : S27) (a : Act) (W : World) : Prop := ∃ B5, W.heap[B5]? = some (.cells (encL x).toArray 27 (0, 0)) ∧ a = actApp Bs B B5 x
theorem AxApp_own (B' Bs B : Nat) (x : S27) (a : Act) : OwnFrom B' (fun (_ : Unit) W => AxApp Bs B x a W) := by
  rintro _ W W' row ⟨B5, hb, he⟩ hg hr
  refine ⟨B5, (hg.block B5 (blk_lt hb) (fun e => ?_)).trans hb, he⟩
  obtain ⟨_, o, ho, hc⟩ := hr B5 e.symm
  rw [hb] at ho
  cases ho
  cases hc
theorem M_L (W : World) (base : Nat) (ok : Nat → Prop) (x : S27) : k27.M W base ok x (encL x) := k27_mkM W base ok x
theorem keeps_append {W w1 : World} {B0 B e base : Nat} {α : Type} {d : Kd α} {ok : Nat → Prop} {v v1 : Value} {xs : List α} (hR : d.R e W base ok v xs) (hg : W.grownBy w1 v.ownBlock) (hB : B < B0) : KeepsFrom B0 W (w1.setCell ⟨B, 0, none⟩ v1) := by
  refine ⟨by simpa using hg.size, fun k o hk h0 ho => ?_⟩
  have h1 : w1.heap[k]? = some o := (hg.block k (blk_lt h0) (fun e => by
    obtain ⟨inner, hown⟩ := Kd.R_own hR
    obtain ⟨cells, hc⟩ := own_typed hown k e.symm
    rw [hc] at h0
    cases h0
    cases ho)).trans h0
  exact (Below.heap_setCell w1 ⟨B, 0, none⟩ v1 k (by show k ≠ B; omega)).trans h1
set_option maxRecDepth 100000 in
set_option maxHeartbeats 4000000 in
theorem appendSeqL (Bs : Nat) (A : Option Addr) (cap : Nat) (zs : List S27) (w : World) (hlen : zs.length < 4398046511104) (HC : Kd.C k27 w A zs.length zs) (hBs : w.cell? ⟨Bs, 0, none⟩ = some (.slice A zs.length cap)) :
    Calls Try.prog 128 #[.slice none 0 0, .func (.func 116) #[] #[.pointer (some ⟨Bs, 0, none⟩)]] w fun e w' => ∃ v, e = .returned v ∧ Kd.R k27 27 w' w.heap.size (fun _ => True) v zs ∧ Below w.heap.size w w' := by
  refine (callsIn_wide (n := 6)).1 ?_
  refine callsIn_of_wp_marks Try.func128 rfl trivial ?_ rfl
  simp only [Try.ntmps128, List.size_toArray, List.length_cons, List.length_nil, Nat.reduceAdd, Nat.reduceSub, Array.replicate_succ, Array.replicate_zero, List.push_toArray, List.append_toArray, List.nil_append, List.cons_append]
  have hseq := values_stopsL Fence.wide 5 trivial rfl (by decide) Bs A cap zs w hlen HC hBs
  have HS := Aside0.mk hseq
  clear hseq HC
  have HL := Aside0.mk hlen
  clear hlen hBs
  gi_wp2
  refine wpIn_rangeFunc_ownH rfl (by decide) (gf := 116) (lb := #[.pointer (some ⟨Bs, 0, none⟩)]) rfl trivial (enters_of Try.func116 (by kernel_rfl) rfl) HS.out (fun h k => h.trans k) (belowK_b (by simp)) ((Below.refl _ _).alloc (Nat.le_refl _) _) (fun _ => rfl) (IApp w w.heap.size) (fun _ _ _ => False) ?hI (fun _ _ _ _ _ hs _ _ => hs) ?h0 (AxApp Bs w.heap.size) ?hAx ?assign ?body ?done ?stop
  case hI => exact IApp_own w _ _ (by simp) (by simp)
  case h0 => exact ⟨.slice none 0 0, Boxed.new w _ _, Kd.R_nil _ _ _ _ _, (Below.refl _ _).alloc (Nat.le_refl _) _⟩
  case hAx => exact fun x a' => AxApp_own _ _ _ x a'
  case stop => exact fun _ _ _ _ _ _ h => h.elim
  case assign =>
    intro l pre x W K hI hK
    simp only [List.zip_toArray, List.zip_cons_cons, List.zip_nil_right, List.foldl_toArray', List.foldl_cons, List.foldl_nil, List.setIfInBounds_toArray, List.set_cons_succ, List.set_cons_zero, encL]
    have HI := Aside0.mk hI
    clear hI
    have HK := Aside0.mk (fun (h : IApp w w.heap.size pre (W.alloc (.cells (encL x).toArray 27))) => hK (actApp Bs w.heap.size W.heap.size x) (W.alloc (.cells (encL x).toArray 27)) ((KeepsOthers.alloc W _).from _) ((Below.refl _ _).alloc HI.out.choose_spec.2.2.size _) h ⟨W.heap.size, heap_alloc_new W _, rfl⟩)
    clear hK
    gi_wp2
    exact HK.out (IApp_own w _ _ (Nat.lt_succ_self _) (by omega) _ _ _ none HI.out (World.grownBy_alloc W _ none) (fun r e => by cases e))
  case body =>
    rintro l pre x a' W hl - ⟨v, hbx, hR, hbel⟩ ⟨B5, hB5, rfl⟩ hlen
    have hlt := hbx.lt
    have hne : some w.heap.size ≠ v.ownBlock := fun e => hR.1 _ e.symm rfl
    have hc2 := hbx.cell
    have hx0 : W.cell? ⟨B5, 0, none⟩ = some (.int .u64 x.f0.f0) := (blk_cell hB5 0).trans rfl
    have hx1 : W.cell? ⟨B5, 1, none⟩ = some (.int .i64 x.f0.f1) := (blk_cell hB5 1).trans rfl
    have hx2 : W.cell? ⟨B5, 2, none⟩ = some (.int .u64 x.f1) := (blk_cell hB5 2).trans rfl
    have hx3 : W.cell? ⟨B5, 3, none⟩ = some (.int .i64 x.f2) := (blk_cell hB5 3).trans rfl
    have HBX := Aside0.mk hbx
    have HR := Aside0.mk hR
    have HBL := Aside0.mk hbel
    have HN := Aside0.mk hlen
    have HLT := Aside0.mk hlt
    have HNE := Aside0.mk hne
    clear hbx hR hbel hne hB5 hlt hlen hl
    simp only [actApp, encL]
    gi_wp2_with (gi_at_builtin; refine RIn_append k27 (w0 := w) (W := W) w.heap.size rfl (.tmp 8) (.tmp 10) 41 27 (.agg #[(.int .u64 0), (.int .i64 0), (.int .u64 0), (.int .i64 0)]) 32 rfl Try.underlying41 info27 rfl (by decide) (by decide) v pre x (encL x) (fun k => k ≠ w.heap.size) (fun _ => False) rfl rfl (M_L _ _ _ x) (fun _ h => h.elim) ?hfr HR.out HBL.out HBL.out.size ?hln ?_; (case hfr => intro k hk; have := HLT.out; omega); (case hln => have := HL.out; have := HN.out; omega); intro v1 w1 hR1 hB1 hg1; obtain ⟨A1, k1, e1⟩ := Kd.R_slice hR1; subst e1; have hbx1 := HBX.out.kept hg1 HNE.out; have hc1 := hbx1.cell; have hf1 := hbx1.frozen; have F1 := Aside0.mk (keeps_append (B0 := w.heap.size + 1) (B := w.heap.size) (v1 := .slice A1 (pre ++ [x]).length k1) HR.out hg1 (by omega)); have F2 := Aside0.mk (show Below w.heap.size W (w1.setCell ⟨w.heap.size, 0, none⟩ (.slice A1 (pre ++ [x]).length k1)) from ((Below.refl _ _).grown hg1 HBL.out.size (Kd.R_base HR.out)).setCell (Nat.le_refl _) _); have F3 := Aside0.mk (show IApp w w.heap.size (pre ++ [x]) (w1.setCell ⟨w.heap.size, 0, none⟩ (.slice A1 (pre ++ [x]).length k1)) from ⟨.slice A1 (pre ++ [x]).length k1, by simpa [Boxed] using blk_set hbx1 0 (.slice A1 (pre ++ [x]).length k1), Kd.R_far hR1 (fun k hk => hk) _, below_set hB1 (Nat.le_refl _)⟩); clear hbx1 hR1 hB1 hg1)
    exact ⟨by simpa using F1.out, by simpa using F2.out, by simpa using F3.out⟩
  case done =>
    rintro D xs W hD rfl ⟨v, hbx, hR, hbel⟩ hK
    have hc := hbx.cell
    have F1 := Aside0.mk hR
    have F2 := Aside0.mk hbel
    have F3 := Aside0.mk hD
    clear hbx hR hbel hD
    obtain ⟨A1, k1, e1⟩ := Kd.R_slice F1.out
    subst e1
    gi_wp2
    refine ⟨by simp, .inl ⟨_, _, rfl, run_takeDeferred hK, ?_⟩⟩
    exact ⟨.slice A1 xs.length k1, by simp [results, go_sem, Try.results128], _, rfl, Kd.R_mono (R_others (B := D) F1.out (grownBy_putObj' W D _) (fun r e => by cases e; exact ⟨Nat.le_refl _, _, hK, rfl⟩)) (fun _ _ => trivial), F2.out.grown (grownBy_putObj' W D _) F2.out.size (fun k e => by cases e; have := F3.out; simp at this; omega)⟩
end Go.Proofs.Ytioooiflpabngaa.PAll
end
section
namespace Go.Proofs.Ytioooiflpabngaa.PAll
open Go.RowKit Go.Sort Go.Shelf Go.Proofs.YtioooiflpabngaaW.PrintWords Go.Proofs.YtioooiflpabngaaW.PrintLast Go.Proofs.YtioooiflpabngaaW.PrintMore
set_option linter.unusedVariables false
set_option linter.unusedSimpArgs false
theorem swoL : SWO (ltOf cmpL) where
  irrefl x := by
    have := ltL_irrefl x
    rw [← cmpL_neg] at this
    simpa [ltOf] using this
  trans x y z h1 h2 := by
    simp only [ltOf, decide_eq_true_eq] at *
    rw [cmpL_neg] at *
    exact ltL_trans h1 h2
  ntrans x y z h1 h2 := by
    simp only [ltOf, decide_eq_false_iff_not] at *
    rw [cmpL_neg] at *
    intro h3
    rcases ltL_total x y with h | h | h
    · exact h1 h
    · subst h; exact h2 h3
    · rcases ltL_total y z with k | k | k
      · exact h2 k
      · subst k; exact h1 h3
      · exact ltL_irrefl _ (ltL_trans h3 (ltL_trans k h))
theorem totL (x y : S27) (h1 : ltOf cmpL x y = false) (h2 : ltOf cmpL y x = false) : x = y := by
  simp only [ltOf, decide_eq_false_iff_not] at *
  rw [cmpL_neg] at *
  rcases ltL_total x y with h | h | h
  · exact absurd h h1
  · exact h
  · exact absurd h h2
theorem compare_call (x y : S27) (W : World) : Calls Try.prog 42 #[.agg (encL x).toArray, .agg (encL y).toArray] W fun e w' => e = .returned (.int .i64 (cmpL x y)) ∧ BlwD W.heap.size W w' :=
  label_Compare.callsD 4 _ _ _ _ _ _ _ _ _ W (label_Compare_eq x y)
theorem compare_lays (blk off size : Nat) (w : World) : CmpLays Try.prog 42 #[] encL 4 cmpL blk off size w := fun m os dk _ x y =>
  (compare_call x y _).mono fun _ _ ⟨he, hb⟩ => ⟨he, hb.grow⟩
def sortedL (xs : List S27) : List S27 := xs.mergeSort fun x y => !(ltOf cmpL) y x
theorem sortedL_length (xs : List S27) : (sortedL xs).length = xs.length := List.length_mergeSort _
theorem encL_len (x : S27) : (encL x).length = 4 := rfl
theorem encL_one (x : S27) : ∀ v ∈ encL x, v.oneCell' = true := by
  intro v hv
  simp only [encL, List.mem_cons, List.not_mem_nil, or_false] at hv
  rcases hv with rfl | rfl | rfl | rfl <;> rfl
theorem flat_chunk (ys : List S27) (j : Nat) (p : S27) (hj : ys[j]? = some p) : (((flatK encL 4 ys.toArray).toList.drop (j * 4)).take 4) = encL p := by
  obtain ⟨hlt, hp⟩ := List.getElem?_eq_some_iff.1 hj
  have hsz : (flatK encL 4 ys.toArray).size = ys.length * 4 := by simp
  apply List.ext_getElem
  · simp [encL_len]; omega
  · intro i h1 h2
    have hi : i < 4 := by simpa [encL_len] using h2
    have hlt2 : j * 4 + i < ys.length * 4 := by omega
    rw [List.getElem_take, List.getElem_drop, Array.getElem_toList, ← getElem!_pos (flatK encL 4 ys.toArray) (j * 4 + i) (by rw [hsz]; omega), get_flatK _ _ _ _ (by simpa using hlt2)]
    have e1 : (j * 4 + i) / 4 = j := by omega
    have e2 : (j * 4 + i) % 4 = i := by omega
    rw [e1, e2]
    have e3 : ys.toArray[j]! = p := by simp [getElem!_pos, hlt, hp]
    rw [e3, getElem!_pos (encL p) i h2]
theorem flat_reps (W : World) (base : Nat) (ok : Nat → Prop) (ys : List S27) : Reps (k27.M W base ok) 4 ys (flatK encL 4 ys.toArray).toList :=
  ⟨by simp, fun j p hj => by rw [flat_chunk ys j p hj]; exact M_L W base ok p⟩
theorem inner_flat {W : World} {base : Nat} {ok : Nat → Prop} {xs : List S27} {inner : List Value} (h : Reps (k27.M W base ok) 4 xs inner) : inner = (flatK encL 4 xs.toArray).toList := by
  have hl := h.1
  apply List.ext_getElem
  · simp [hl]
  · intro t h1 h2
    have ht : t < xs.length * 4 := by omega
    have hj : t / 4 < xs.length := by omega
    have hc := h.2 (t / 4) _ (List.getElem?_eq_getElem hj)
    have hc2 := k27_openM hc
    have hf := flat_chunk xs (t / 4) _ (List.getElem?_eq_getElem hj)
    have e : (inner.drop (t / 4 * 4)).take 4 = ((flatK encL 4 xs.toArray).toList.drop (t / 4 * 4)).take 4 := by rw [hf, hc2]; rfl
    have e2 := congrArg (fun l => l[t % 4]?) e
    simp only [List.getElem?_take, List.getElem?_drop] at e2
    have e3 : t / 4 * 4 + t % 4 = t := by omega
    rw [if_pos (by omega), if_pos (by omega), e3, List.getElem?_eq_getElem h1, List.getElem?_eq_getElem h2] at e2
    exact Option.some.inj e2
theorem put_take (F c : Array Value) (h : F.size ≤ c.size) : (putCells id 0 F c).toList.take F.size = F.toList := by
  apply List.ext_getElem
  · simp [putCells]; omega
  · intro i h1 h2
    have hi : i < F.size := by simpa using h2
    simp [putCells, hi]
theorem sorted_block (w : World) (n g : Nat) (cur : Array Value) (hh : w.heap[g]? = some (.cells cur 27 (0, 0))) (d : Array S27) (os : Array Obj) :
    (sortWorldK encL 4 w g 0 n d os).heap[g]? = some (.cells (putCells id 0 (flatK encL 4 d) cur) 27 (0, 0)) := by
  unfold sortWorldK putRowK putRow
  rw [heap_grow_old _ _ (by have := blk_lt hh; simpa [mapBlock] using this)]
  simp [mapBlock, Array.getElem?_modify, hh, onCells]
theorem sorted_grown (w : World) (n g : Nat) (d : Array S27) (os : Array Obj) : w.grownBy (sortWorldK encL 4 w g 0 n d os) (some g) := by
  refine ⟨rfl, rfl, rfl, by simp [sortWorldK, putRowK], fun i hi hne => ?_⟩
  unfold sortWorldK putRowK putRow
  rw [heap_grow_old _ _ (by simpa [mapBlock] using hi)]
  have : g ≠ i := fun e => hne (by rw [e])
  simp [mapBlock, Array.getElem?_modify, this]
set_option maxRecDepth 100000 in
theorem sortFuncL (v : Value) (xs : List S27) (w : World) (base : Nat) (ok : Nat → Prop) (hR : Kd.R k27 27 w base ok v xs) (hlen : xs.length < 4398046511104) :
    Calls Try.prog 115 #[v, .func (.func 42) #[] #[]] w fun e w' => e = .returned (.tuple #[]) ∧ Kd.R k27 27 w' base ok v (sortedL xs) ∧ w.grownBy w' v.ownBlock := by
  rcases Nat.eq_zero_or_pos xs.length with h0 | h0
  · obtain rfl := List.eq_nil_of_length_eq_zero h0
    obtain ⟨A, c, rfl⟩ := Kd.R_slice hR
    have hS := AnyF.slices_SortFunc_none (P := Try.prog) Try.sortLab A c (.func (.func 42) #[] #[]) w
    change Calls Try.prog 115 _ _ _ at hS
    refine hS.mono ?_
    rintro e w' ⟨rfl, rfl⟩
    exact ⟨rfl, by simpa [sortedL] using hR, World.grownBy.refl _ _⟩
  · obtain ⟨hok, inner, ⟨hl, hown⟩, hr⟩ := hR
    rcases hown with ⟨rfl, hn⟩ | ⟨g, cap, cur, rfl, hb, hh, hnc, hcm, hcs, htk⟩
    · omega
    · have hin := inner_flat hr
      have hH : HoldsK encL 4 w g 0 xs.toArray := by
        intro t ht
        have ht4 : t < xs.length * 4 := by simpa using ht
        have hsz : k27.sz = 4 := rfl
        rw [hsz] at hcs htk
        have hcl : t < cur.size := by rw [hcs]; omega
        refine ⟨?_, by simp [World.frozen?, hh]⟩
        have e1 : cur[t]? = some (flatK encL 4 xs.toArray)[t]! := by
          have e2 : cur.toList[t]? = (flatK encL 4 xs.toArray).toList[t]? := by
            rw [← hin, ← htk, List.getElem?_take, if_pos ht4]
          rw [Array.getElem?_toList, Array.getElem?_toList] at e2
          rw [e2, getElem!_pos (flatK encL 4 xs.toArray) t ht, Array.getElem?_eq_getElem ht]
        simp [World.cell?, hh, e1]
      have eg : ∀ args w, (callFunc 42 args).run Try.prog w = .ok (.enter 42 args) w := enters_of Try.func42 (by kernel_rfl) rfl
      have hS := AnyQ.slices_SortFunc_total Try.sortLab 4 Try.isAgg27 Try.sizeOf27 encL encL_len encL_one cmpL swoL 42 #[] g 0 cap xs.toArray w eg (compare_lays g 0 _ w) hH (blk_lt hh) (by simp; omega) totL
      change Calls Try.prog 115 _ _ _ at hS
      refine hS.mono ?_
      rintro e w' ⟨rfl, n, os, rfl⟩
      have hs : sortedL xs = (xs.toArray.toList.mergeSort fun x y => !(ltOf cmpL) y x) := rfl
      rw [← hs]
      have hbk := sorted_block w n g cur hh (sortedL xs).toArray os
      refine ⟨rfl, ⟨hok, (flatK encL 4 (sortedL xs).toArray).toList, ⟨by rw [sortedL_length]; simp [sortedL_length]; rfl, .inr ⟨g, cap, _, by rw [sortedL_length], hb, hbk, by rw [sortedL_length]; exact hnc, hcm, by simpa [putCells] using hcs, ?_⟩⟩, flat_reps _ _ _ _⟩, sorted_grown w n g _ os⟩
      have h4 := put_take (flatK encL 4 (sortedL xs).toArray) cur (by rw [hcs]; simp [sortedL_length]; exact Nat.mul_le_mul_right 4 hnc)
      have e4 : (flatK encL 4 (sortedL xs).toArray).size = (sortedL xs).length * k27.sz := by simp; rfl
      rw [e4] at h4
      exact h4
end Go.Proofs.Ytioooiflpabngaa.PAll
end
section
namespace Go.Proofs.Ytioooiflpabngaa.PAll
open Go.RowKit Go.Sort Go.Shelf Go.Proofs.YtioooiflpabngaaW.PrintWords Go.Proofs.YtioooiflpabngaaW.PrintLast Go.Proofs.YtioooiflpabngaaW.PrintMore
set_option linter.unusedVariables false
set_option linter.unusedSimpArgs false
instance : DecidableEq S27 := fun a b => decidable_of_iff (eqL a b = true) eqL_iff
theorem step_callV {P : Program} {w : World} {ops : Array Oper} {o : Oper} {a : Act} {K : Act → World → Prop} {Q : Exit → Act → World → Prop} {E : Prop} (hgd : o.guard = none) {f : FuncId} {fn : Func} {as_ : Array Operand} {ts : Array TypeId} {t : Tmp} (hf : P.funcs[f]? = some fn) (hname : (fn.name == "runtime.NumGoroutine") = false) (hb : fn.body.isSome = true) (args : Array Value)
    (hop : o.op = .call { callee := .value (.tmp t), args := as_, argTypes := ts }) (hv : a.eval (.tmp t) = .func (.func f) #[] #[]) (hargs : as_.map a.eval = args)
    (h : Calls P f args w fun e w' => ∃ v, e = .returned v ∧ K (a.put o.dst v) w') : if Region.wanted o (yielded ops a.tmps) = true then Oper.wp P o a w K Q else E := by
  have hw : Region.wanted o (yielded ops a.tmps) = true := by simp [Region.wanted, hgd]
  have h2 : if Region.wanted o (yielded ops a.tmps) = true then Oper.wp P o a w K Q else K (a.put o.dst undef) w := by
    refine call_ f args hw rfl ?_ h
    have he := enters_ hf hname hb args w
    unfold execOp
    simp [hop, resolve, hv, Deferred.ofValue, invoke, hargs, he]
  rw [if_pos hw] at h2 ⊢
  exact h2
section
attribute [local go_sem high] eqA27
set_option maxRecDepth 100000 in
theorem same1 (x y : S27) (W : World) : Calls Try.prog 82 #[.agg (encL x).toArray, .agg (encL y).toArray] W fun e w' => e = .returned (.bool (eqL x y)) ∧ Below W.heap.size W w' := by
  unfold encL
  go_enter Try.func82, Try.ntmps82
  go_wp2
  go_ret
  exact ⟨rfl, by repeat (first | exact Below.refl _ _ | apply below_alloc | refine below_set ?_ (Nat.le_refl _))⟩
end
theorem rd_at (xs : List S27) (n : Nat) : rd_T27 xs (n : Int) = xs.toArray[n]! := by
  unfold rd_T27
  rw [Int.toNat_natCast, List.getD_eq_getElem?_getD]
  by_cases h : n < xs.length
  · simp [h]
  · simp [h]
    rfl
theorem sizeL : (Try.prog.info? 27).map (·.size) = some 4 := by
  obtain ⟨i, hi, he⟩ := Option.map_eq_some_iff.1 info27
  simp only [Prod.mk.injEq] at he
  rw [hi, Option.map_some, he.2.1]
theorem rd_atA (dk : Array S27) (n : Nat) : rd_T27 dk.toList (n : Int) = dk[n]! := by rw [rd_at]
theorem grown_step {w wi w3 : World} {row : Option Nat} (h : w.grownBy wi row) (hb : Below wi.heap.size wi w3) : w.grownBy w3 row :=
  ⟨hb.os.trans h.os, hb.tape.trans h.tape, hb.output.trans h.output, Nat.le_trans h.size hb.size, fun t ht hne => (hb.block t (Nat.lt_of_lt_of_le ht h.size)).trans (h.block t ht hne)⟩
theorem storeL {ops : Array Oper} {rest : List Oper} {o : Oper} {a : Act} {Q : Exit → Act → World → Prop} {W w0 : World} {base g n c : Nat} {ok : Nat → Prop} {xs : List S27} (hN : o.dst = none) (hgd : o.guard = none) (p x : Operand) (ho : o.op = .store 27 p x) (k : Nat) (y : S27) (o' : Nat)
    (haddr : a.eval p = .pointer (some ⟨g, o', none⟩)) (hoff : o' = k * 4) (hx : a.eval x = .agg #[.int .u64 y.f0.f0, .int .i64 y.f0.f1, .int .u64 y.f1, .int .i64 y.f2]) (HO : Kd.R k27 27 W base ok (.slice (some ⟨g, 0, none⟩) n c) xs) (hk : k < n) (HB : Below base w0 W)
    (h : ∀ w1, Kd.R k27 27 w1 base ok (.slice (some ⟨g, 0, none⟩) n c) (xs.set k y) → Below base w0 w1 → W.grownBy w1 (some g) → wpList Try.prog ops Q rest a w1) : wpList Try.prog ops Q (o :: rest) a W := by
  have hC := (Kd.R_reads' HO).2.2
  have hn := (Kd.R_reads' HO).1
  obtain ⟨ad, e, hz0, hz1, hz2, hz3⟩ := at_T27 hC (k : Int) (by omega) (by omega)
  obtain rfl := Option.some.inj e
  rw [Int.toNat_natCast] at hz0 hz1 hz2 hz3
  simp only [Addr.add_lit, Nat.zero_add] at hz0 hz1 hz2 hz3
  refine Kd.R_store k27 (w0 := w0) base hN hgd 27 p x ho 27 (g := g) (n := n) (cap := c) (o' := o') (k : Int) 0 xs y (.agg (encL y).toArray) (encL y) (encL (rd_T27 xs (k : Int))) ok (fun _ => False) haddr (by rw [hoff, Int.toNat_natCast]; rfl) hx rfl sizeL (encL_one y) HO (by omega) (by omega) rfl ?_ (Nat.le_refl 4) (M_L _ _ _ y) (fun _ h => h.elim) HB ?_
  · intro j u hu
    rw [Int.toNat_natCast]
    rcases j with _ | _ | _ | _ | j
    · cases hu; exact hz0
    · cases hu; exact hz1
    · cases hu; exact hz2
    · cases hu; exact hz3
    · simp [encL] at hu
  · intro w1 h1 h2 h3
    rw [Int.toNat_natCast] at h1
    exact h w1 h1 h2 h3
theorem run_clear_rows {P : Program} (w : World) (t e ty : TypeId) (z : Value) (ht : P.underlying t = some (.slice e)) (hv : (zeroValue e).run P w = .ok z w) (g o n c : Nat) (h1 : ∀ q ∈ (Builtin.zeroCells z.cells n).toList, q.oneCell' = true) (hn : 0 < n) (cur : Array Value) (hh : w.heap[g]? = some (.cells cur e (0, 0)))
    (hfit : o + (Builtin.zeroCells z.cells n).size ≤ cur.size) : (Builtin.clear_ #[t] ty #[.slice (some ⟨g, o, none⟩) n c]).run P w = .ok (.tuple #[]) (w.setCells g o (Builtin.zeroCells z.cells n).toList) := by
  have hst := run_storeCells_cells (P := P) g o (Builtin.zeroCells z.cells n).toList 0 w (fun j hj => by rw [cell_of_row w g _ cur e (0, 0) hh]; rw [Array.length_toList] at hj; simp; omega) (fun j _ => blk_frozen hh _) h1
  simp only [Nat.add_zero] at hst
  obtain ⟨m, rfl⟩ : ∃ m, n = m + 1 := ⟨n - 1, by omega⟩
  simp [Builtin.clear_, run_underlying ht, hv, hst]
theorem clear_tail {α : Type} {d : Kd α} {e g n c base : Nat} {w : World} {ok : Nat → Prop} {xs : List α} (h : d.R e w base ok (.slice (some ⟨g, 0, none⟩) n c) xs) (m : Nat) (hm : m ≤ n) (vs : List Value) (hvs : vs.length = (n - m) * d.sz) :
    d.R e (w.setCells g (m * d.sz) vs) base ok (.slice (some ⟨g, 0, none⟩) m c) (xs.take m) ∧ w.grownBy (w.setCells g (m * d.sz) vs) (some g) ∧ ∃ cur, w.heap[g]? = some (.cells cur e (0, 0)) ∧ m * d.sz + vs.length ≤ cur.size := by
  have hn : n = xs.length := (Kd.R_reads' h).1
  obtain ⟨h0, inner, hown, hr⟩ := Kd.R_take h (m := m) (by omega)
  obtain ⟨_, _, ⟨_, hown1⟩, _⟩ := h
  rcases hown1 with ⟨he, _⟩ | ⟨g1, cap1, cur1, he1, _, hh1, hnc1, _, hcs1, _⟩
  · cases he
  injection he1 with a1 a2 a3
  injection a1 with a1
  injection a1 with a1
  subst a1; subst a3
  have hfit : m * d.sz + vs.length ≤ cur1.size := by
    rw [hvs, ← Nat.add_mul, show m + (n - m) = n by omega, hcs1]
    exact Nat.mul_le_mul_right _ (by omega)
  obtain ⟨cur', hc1, hc2, hc3⟩ := setCells_row vs (m * d.sz) w cur1 hh1 hfit
  obtain ⟨o1, o2, o3, o4⟩ := setCells_same g vs (m * d.sz) w
  have hfar : ∀ k, k ≠ g → (w.setCells g (m * d.sz) vs).heap[k]? = w.heap[k]? := fun k hk => setCells_far vs _ k hk
  refine ⟨⟨h0, inner, ⟨hown.1, ?_⟩, hr.imp_ fun _ _ hp => d.M_move (fun k hk => hfar k fun he => hk.2 (by rw [he]; rfl)) hp⟩, ⟨o1, o2, o3, Nat.le_of_eq o4.symm, fun k _ hk => hfar k fun he => hk (by rw [he])⟩, cur1, hh1, hfit⟩
  rcases hown.2 with ⟨he, _⟩ | ⟨g2, cap2, cur2, he2, hb2, hh2, hnc2, hcm2, hcs2, htk2⟩
  · cases he
  injection he2 with a1 a2 a3
  injection a1 with a1
  injection a1 with a1
  subst a1; subst a3
  rw [hh1] at hh2
  injection hh2 with hh2
  injection hh2 with hh2
  subst hh2
  have hlt : (xs.take m).length = m := by rw [List.length_take]; omega
  rw [hlt] at hnc2 htk2 ⊢
  refine .inr ⟨g, c, cur', rfl, hb2, hc1, hnc2, hcm2, by rw [hc2]; exact hcs2, ?_⟩
  rw [hc3, ← htk2, List.append_assoc, List.take_append_of_le_length (by rw [List.length_take, Array.length_toList]; omega), List.take_take, Nat.min_self]
def zeroL : Value := .agg #[.int .u64 0, .int .i64 0, .int .u64 0, .int .i64 0]
theorem zeroL_run (w : World) : (zeroValue 27).run Try.prog w = .ok zeroL w := by
  obtain ⟨i, hi, he⟩ := Option.map_eq_some_iff.1 info27
  simp only [Prod.mk.injEq] at he
  simp [zeroValue, typeInfo, hi, he.1]
  rfl
theorem zeroL_size (n : Nat) : (Builtin.zeroCells zeroL.cells n).size = n * 4 := by
  simp only [Builtin.zeroCells, Array.size_map, Array.size_range]
  rfl
theorem zeroL_one (n : Nat) : ∀ q ∈ (Builtin.zeroCells zeroL.cells n).toList, q.oneCell' = true := by
  intro q hq
  simp only [Builtin.zeroCells, Array.toList_map, List.mem_map] at hq
  obtain ⟨i, _, rfl⟩ := hq
  have hm : i % zeroL.cells.size < 4 := Nat.mod_lt _ (by decide)
  generalize i % zeroL.cells.size = t at hm
  rcases t with _ | _ | _ | _ | t
  · rfl
  · rfl
  · rfl
  · rfl
  · omega
theorem inv_take {d dk : Array S27} {k : Nat} (h : Lib.CompInv d d.size k dk) : dk.toList.take k = Lib.compactUpTo d d.size := by
  have h1 := h.size
  have h2 := h.lt
  refine List.ext_getElem? fun j => ?_
  by_cases hj : j < k
  · rw [h.low j hj, List.getElem?_take, if_pos hj, Array.getElem?_toList, getElem!_pos dk j (by omega), Array.getElem?_eq_getElem]
  · rw [List.getElem?_eq_none (by rw [List.length_take]; omega), List.getElem?_eq_none (by rw [h.len]; omega)]
set_option maxHeartbeats 2000000 in
set_option maxRecDepth 100000 in
theorem compactFuncL (v : Value) (xs : List S27) (w : World) (base : Nat) (ok : Nat → Prop) (hR : Kd.R k27 27 w base ok v xs) (hlen : xs.length < 4398046511104) :
    Calls Try.prog 79 #[v, .func (.func 82) #[] #[]] w fun e w' => ∃ v', e = .returned v' ∧ Kd.R k27 27 w' base ok v' (Lib.compact xs) ∧ w.grownBy w' v.ownBlock := by
  obtain ⟨A, c, rfl⟩ := Kd.R_slice hR
  have HR := Aside0.mk hR
  clear hR
  have HL := Aside0.mk hlen
  clear hlen
  by_cases h2 : xs.length < 2
  · go_enter Try.func79, Try.ntmps79
    go_wp2
    go_ret
    exact ⟨_, rfl, by rw [Lib.compact_all xs fun j hj => Lib.keeps_lt_one _ j (by omega)]; exact HR.out, World.grownBy.refl _ _⟩
  · obtain ⟨g, rfl⟩ : ∃ g, A = some ⟨g, 0, none⟩ := by
      obtain ⟨_, inner, ho, _⟩ := HR.out
      rcases ho.2 with ⟨he, h0⟩ | ⟨g, cap, cur, he, _⟩
      · omega
      · injection he with he
        exact ⟨g, he⟩
    have hC0 := (Kd.R_reads' HR.out).2.2
    have HNC := Aside0.mk (Kd.R_reads' HR.out).2.1
    have HBS := Aside0.mk (show base ≤ w.heap.size by
      obtain ⟨_, inner, ho, _⟩ := HR.out
      have := ho.lt g rfl
      omega)
    have HBG := Aside0.mk (Kd.R_base HR.out)
    have HC := Aside0.mk hC0
    clear hC0
    have mixed : Try.prog.follows Departure.mixedOrders = true := by kernel_rfl
    go_enter Try.func79, Try.ntmps79
    go_wp2
    go_loopg [5] xs.length (fun g_ s5 wr => ∃ k : Nat, 1 ≤ k ∧ k ≤ xs.length ∧ xs.length - k ≤ g_ ∧ s5 = .int .i64 k ∧ Aside0 (Below w.heap.size w wr) ∧ Aside0 (∀ j, j < k → Lib.keeps xs.toArray j = true))
    case atStart => exact ⟨1, Nat.le_refl _, by omega, by omega, rfl, ⟨Below.refl _ _⟩, ⟨Lib.keeps_lt_one _⟩⟩
    case round =>
      obtain ⟨k, hk1, hk, hg, rfl, HB, HA⟩ := hrel
      by_cases hlt : k < xs.length
      · obtain ⟨ad, e, hx0, hx1, hx2, hx3⟩ := at_T27 (Kd.C_below HC.out HB.out) (k : Int) (by omega) (by omega)
        obtain rfl := Option.some.inj e
        obtain ⟨j, hj⟩ : ∃ j : Nat, k = j + 1 := ⟨k - 1, by omega⟩
        obtain ⟨ad, e, hy0, hy1, hy2, hy3⟩ := at_T27 (Kd.C_below HC.out HB.out) (j : Int) (by omega) (by omega)
        obtain rfl := Option.some.inj e
        rw [Int.toNat_natCast] at hx0 hx1 hx2 hx3 hy0 hy1 hy2 hy3
        have hwj : IntKind.i64.wrap ((k : Int) - 1) = (j : Int) := by have := HL.out; rw [IntKind.wrap_i64]; omega
        have hjl : (j : Int) < (xs.length : Int) := by omega
        have hnc := HNC.out
        have hck : ¬ (c = k) := by omega
        have hkc : k ≤ c := by omega
        have HE1 := Aside0.mk (show wrap64 ((k : Int) + 1) = ((k + 1 : Nat) : Int) by have := HL.out; unfold wrap64; omega)
        have HJ := Aside0.mk hj
        have HK := Aside0.mk (And.intro hk1 (And.intro hk hg))
        clear hj hk1 hk hg
        simp only [Addr.add_lit, Nat.zero_add] at hx0 hx1 hx2 hx3 hy0 hy1 hy2 hy3
        by_cases hq : rd_T27 xs (k : Int) = rd_T27 xs (j : Int)
        · have HQ := Aside0.mk hq
          have hqb : eqL (rd_T27 xs (k : Int)) (rd_T27 xs (j : Int)) = true := eqL_iff.2 hq
          clear hq
          go_wp2_with fail
          go_region_law_o (refine step_callV rfl (f := 82) Try.func82 (by kernel_rfl) rfl #[.agg (encL (rd_T27 xs (k : Int))).toArray, .agg (encL (rd_T27 xs (j : Int))).toArray] rfl (by simp [Act.eval]) (by simp [Act.eval, Act.put, encL]) ?_; refine (same1 (rd_T27 xs (k : Int)) (rd_T27 xs (j : Int)) _).mono ?_; rintro e w2 ⟨rfl, hb⟩; rw [hqb]; refine ⟨_, rfl, ?_⟩; have HB2 := Aside0.mk (show Below w.heap.size w w2 from below_step (by repeat (first | exact HB.out | apply below_drew1)) hb); clear hb)
          all_goals clear hqb hx0 hx1 hx2 hx3 hy0 hy1 hy2 hy3 hwj hjl
          all_goals go_wp2
          all_goals (
            go_loopg [5, 7] xs.length (fun g_ s5 s7 wi => ∃ (kk k2 : Nat) (dk : Array S27), s5 = .int .i64 kk ∧ s7 = .int .i64 k2 ∧ 1 ≤ k2 ∧ k + k2 ≤ xs.length ∧ xs.length - (k + k2) ≤ g_ ∧ Aside0 (Kd.R k27 27 wi base ok (.slice (some ⟨g, 0, none⟩) xs.length c) dk.toList) ∧ Aside0 (Below base w wi) ∧ Aside0 (w.grownBy wi (some g)) ∧ Aside0 (Lib.CompInv xs.toArray (k + k2) kk dk))
            case atStart => exact ⟨k, 1, xs.toArray, rfl, rfl, Nat.le_refl _, by omega, by omega, ⟨Kd.R_below HR.out HB2.out⟩, ⟨HB2.out.mono HBS.out⟩, ⟨⟨HB2.out.os, HB2.out.tape, HB2.out.output, HB2.out.size, fun t ht _ => HB2.out.block t ht⟩⟩, ⟨Lib.CompInv.start HA.out (Lib.keeps_neg (by have := HJ.out; omega) (by rw [← rd_at xs k, show k - 1 = j by have := HJ.out; omega, ← rd_at xs j]; exact HQ.out))⟩⟩
            case round =>
              obtain ⟨kk, k2, dk, rfl, rfl, h1, hle, hg2, HRn, HBn, HGn, HI⟩ := hrel
              have hdl : dk.toList.length = xs.length := by have := HI.out.size; simpa using this
              have hkk := HI.out.lt
              by_cases hlt2 : k + k2 < xs.length
              · have hCi := (Kd.R_reads' HRn.out).2.2
                obtain ⟨ad, e, hx0, hx1, hx2, hx3⟩ := at_T27 hCi ((k + k2 : Nat) : Int) (by omega) (by omega)
                obtain rfl := Option.some.inj e
                obtain ⟨j2, hj2⟩ : ∃ j2 : Nat, k2 = j2 + 1 := ⟨k2 - 1, by omega⟩
                obtain ⟨ad, e, hy0, hy1, hy2, hy3⟩ := at_T27 hCi ((k + j2 : Nat) : Int) (by omega) (by omega)
                obtain rfl := Option.some.inj e
                rw [Int.toNat_natCast, Nat.add_mul] at hx0 hx1 hx2 hx3 hy0 hy1 hy2 hy3
                have hwj : IntKind.i64.wrap ((k2 : Int) - 1) = (j2 : Int) := by have := HL.out; rw [IntKind.wrap_i64]; omega
                have hjl : (j2 : Int) < ((xs.length - k : Nat) : Int) := by omega
                have hkl : (k2 : Int) < ((xs.length - k : Nat) : Int) := by omega
                clear hCi
                simp only [Addr.add_lit, Nat.zero_add] at hx0 hx1 hx2 hx3 hy0 hy1 hy2 hy3
                have hkk2 : (kk : Int) < (xs.length : Int) := by omega
                have HJ2 := Aside0.mk hj2
                have HE2 := Aside0.mk (show wrap64 ((k2 : Int) + 1) = ((k2 + 1 : Nat) : Int) by have := HL.out; unfold wrap64; omega)
                have HE3 := Aside0.mk (show wrap64 ((kk : Int) + 1) = ((kk + 1 : Nat) : Int) by have := HL.out; unfold wrap64; omega)
                have HK2 := Aside0.mk (show 1 ≤ k2 ∧ k + k2 ≤ xs.length ∧ xs.length - (k + k2) ≤ gk ∧ kk < k + k2 ∧ k + k2 < xs.length from ⟨h1, hle, hg2, hkk, hlt2⟩)
                clear hj2 h1 hle hg2 hkk hlt2
                by_cases hq2 : rd_T27 dk.toList ((k + k2 : Nat) : Int) = rd_T27 dk.toList ((k + j2 : Nat) : Int)
                · have HQ2 := Aside0.mk hq2
                  have hqb2 : eqL (rd_T27 dk.toList ((k + k2 : Nat) : Int)) (rd_T27 dk.toList ((k + j2 : Nat) : Int)) = true := eqL_iff.2 hq2
                  clear hq2
                  go_wp2_with fail
                  go_region_law_o (refine step_callV rfl (f := 82) Try.func82 (by kernel_rfl) rfl #[.agg (encL (rd_T27 dk.toList ((k + k2 : Nat) : Int))).toArray, .agg (encL (rd_T27 dk.toList ((k + j2 : Nat) : Int))).toArray] rfl (by simp [Act.eval]) (by simp [Act.eval, Act.put, encL]) ?_; refine (same1 (rd_T27 dk.toList ((k + k2 : Nat) : Int)) (rd_T27 dk.toList ((k + j2 : Nat) : Int)) _).mono ?_; rintro e w3 ⟨rfl, hb⟩; rw [hqb2]; refine ⟨_, rfl, ?_⟩; have HB3 := Aside0.mk (show Below wr.heap.size wr w3 from below_step (by repeat (first | exact Below.refl _ _ | apply below_drew1)) hb); clear hb)
                  all_goals clear hqb2 hx0 hx1 hx2 hx3 hy0 hy1 hy2 hy3 hwj hjl
                  all_goals go_wp2
                  all_goals go_roundg (xs.length - (k + (k2 + 1)))
                  all_goals first
                    | (have := HK2.out; omega)
                    | exact ⟨kk, k2 + 1, dk, rfl, by rw [HE2.out], by omega, by have := HK2.out; omega, Nat.le_refl _, ⟨Kd.R_below HRn.out HB3.out⟩, ⟨HBn.out.trans (HB3.out.mono (Nat.le_trans HBS.out HGn.out.size))⟩, ⟨grown_step HGn.out HB3.out⟩, ⟨HI.out.skip (Lib.keeps_neg (by have := HK2.out; omega) (by rw [← HI.out.high (k + k2) (by have := HK2.out; omega), show k + k2 - 1 = k + j2 by have := HJ2.out; omega, ← HI.out.high (k + j2) (by have := HK2.out; have := HJ2.out; omega), ← rd_atA, ← rd_atA]; exact HQ2.out))⟩⟩
                · have HQ2 := Aside0.mk hq2
                  have hqb2 : eqL (rd_T27 dk.toList ((k + k2 : Nat) : Int)) (rd_T27 dk.toList ((k + j2 : Nat) : Int)) = false := by rw [← Bool.not_eq_true, eqL_iff]; exact hq2
                  clear hq2
                  go_wp2_with fail
                  go_region_law_o (refine step_callV rfl (f := 82) Try.func82 (by kernel_rfl) rfl #[.agg (encL (rd_T27 dk.toList ((k + k2 : Nat) : Int))).toArray, .agg (encL (rd_T27 dk.toList ((k + j2 : Nat) : Int))).toArray] rfl (by simp [Act.eval]) (by simp [Act.eval, Act.put, encL]) ?_; refine (same1 (rd_T27 dk.toList ((k + k2 : Nat) : Int)) (rd_T27 dk.toList ((k + j2 : Nat) : Int)) _).mono ?_; rintro e w3 ⟨rfl, hb⟩; rw [hqb2]; refine ⟨_, rfl, ?_⟩; have HB3 := Aside0.mk (show Below wr.heap.size wr w3 from below_step (by repeat (first | exact Below.refl _ _ | apply below_drew1)) hb); clear hb)
                  all_goals clear hqb2 hx0 hx1 hx2 hx3 hy0 hy1 hy2 hy3 hwj hjl
                  all_goals clear hkk2
                  all_goals (
                    have HR3 := Aside0.mk (Kd.R_below HRn.out HB3.out)
                    obtain ⟨ad, e, hx0, hx1, hx2, hx3⟩ := at_T27 (Kd.R_reads' HR3.out).2.2 ((k + k2 : Nat) : Int) (by omega) (by have := HK2.out; omega)
                    obtain rfl := Option.some.inj e
                    rw [Int.toNat_natCast, Nat.add_mul] at hx0 hx1 hx2 hx3
                    simp only [Addr.add_lit, Nat.zero_add] at hx0 hx1 hx2 hx3
                    obtain ⟨x, hgx⟩ : ∃ x, x = rd_T27 dk.toList ((k + k2 : Nat) : Int) := ⟨_, rfl⟩
                    rw [← hgx] at hx0 hx1 hx2 hx3
                    have HGX := Aside0.mk hgx
                    have hkl : (k2 : Int) < ((xs.length - k : Nat) : Int) := by have := HK2.out; omega
                    have hkk2 : (kk : Int) < (xs.length : Int) := by have := HK2.out; omega
                    clear hgx
                    go_wp2_with ((with_reducible refine gate_ (.store 27 (.tmp 56) (.tmp 55)) rfl ?_); refine storeL (w0 := w) rfl rfl (.tmp 56) (.tmp 55) rfl kk x (kk * 4) rfl rfl rfl HR3.out ?s3 ?s5 ?_; (case s3 => have := HK2.out; omega); (case s5 => exact HBn.out.trans (HB3.out.mono (Nat.le_trans HBS.out HGn.out.size))); intro w4 hR4 hB4 hG4; have HR4 := Aside0.mk hR4; have HB4 := Aside0.mk hB4; have HG4 := Aside0.mk hG4; clear hR4 hB4 hG4)
                    all_goals go_roundg (xs.length - (k + (k2 + 1)))
                    all_goals first
                      | (have := HK2.out; omega)
                      | exact ⟨kk + 1, k2 + 1, dk.setIfInBounds kk x, by rw [HE3.out], by rw [HE2.out], by omega, by have := HK2.out; omega, Nat.le_refl _, ⟨by have h4 := HR4.out; simpa using h4⟩, ⟨HB4.out⟩, ⟨(grown_step HGn.out HB3.out).trans HG4.out⟩, ⟨by
                          have e1 : x = xs.toArray[k + k2]! := by rw [HGX.out, rd_atA, HI.out.high (k + k2) (by have := HK2.out; omega)]
                          rw [e1]
                          refine HI.out.keep (by have := HK2.out; simpa using this.2.2.2.2) (Lib.keeps_pos ?_)
                          rw [← HI.out.high (k + k2) (by have := HK2.out; omega), show k + k2 - 1 = k + j2 by have := HJ2.out; omega, ← HI.out.high (k + j2) (by have := HK2.out; have := HJ2.out; omega), ← rd_atA, ← rd_atA]
                          exact HQ2.out⟩⟩)
              · have hend : k + k2 = xs.length := by omega
                obtain ⟨hRt, hGt, cur, hh, hfit⟩ := clear_tail HRn.out kk (by omega) (Builtin.zeroCells zeroL.cells (xs.length - kk)).toList (by rw [Array.length_toList, zeroL_size]; rfl)
                rw [Array.length_toList] at hfit
                have hcl : ∀ ty, (Builtin.clear_ #[41] ty #[.slice (some ⟨g, kk * 4, none⟩) (xs.length - kk) (c - kk)]).run Try.prog wr = .ok (.tuple #[]) (wr.setCells g (kk * 4) (Builtin.zeroCells zeroL.cells (xs.length - kk)).toList) :=
                  fun ty => run_clear_rows wr _ 27 ty zeroL Try.underlying41 (zeroL_run wr) g (kk * 4) (xs.length - kk) (c - kk) (zeroL_one _) (by omega) cur hh hfit
                have hck2 : ¬ (c = kk) := by omega
                have hkc2 : kk ≤ c := by omega
                have hkx : kk ≤ xs.length := by omega
                have hnk : ¬ ((k2 : Int) < ((xs.length - k : Nat) : Int)) := by omega
                have e4 : k27.sz = 4 := rfl
                rw [e4] at hRt hGt
                generalize (Builtin.zeroCells zeroL.cells (xs.length - kk)).toList = vs at hRt hGt hcl
                have HRt := Aside0.mk hRt
                have HGt := Aside0.mk hGt
                have HEND := Aside0.mk hend
                clear hRt hGt hh hfit hend h1 hle hg2 hkk hlt2 hdl hck hkc hnc
                go_wp2
                go_ret
                refine ⟨_, rfl, ?_, HGn.out.trans HGt.out⟩
                have hI := HI.out
                rw [HEND.out] at hI
                have e1 := inv_take (d := xs.toArray) (by simpa using hI)
                have e2 : Lib.compact xs = dk.toList.take kk := by rw [e1]; simp [Lib.compact]
                rw [e2]
                exact HRt.out)
        · have HQ := Aside0.mk hq
          have hqb : eqL (rd_T27 xs (k : Int)) (rd_T27 xs (j : Int)) = false := by rw [← Bool.not_eq_true, eqL_iff]; exact hq
          clear hq
          go_wp2_with fail
          go_region_law_o (refine step_callV rfl (f := 82) Try.func82 (by kernel_rfl) rfl #[.agg (encL (rd_T27 xs (k : Int))).toArray, .agg (encL (rd_T27 xs (j : Int))).toArray] rfl (by simp [Act.eval]) (by simp [Act.eval, Act.put, encL]) ?_; refine (same1 (rd_T27 xs (k : Int)) (rd_T27 xs (j : Int)) _).mono ?_; rintro e w2 ⟨rfl, hb⟩; rw [hqb]; refine ⟨_, rfl, ?_⟩; have HB2 := Aside0.mk (show Below w.heap.size w w2 from below_step (by repeat (first | exact HB.out | apply below_drew1)) hb); clear hb)
          all_goals clear hqb hx0 hx1 hx2 hx3 hy0 hy1 hy2 hy3 hwj hjl
          all_goals go_wp2
          all_goals go_roundg (xs.length - (k + 1))
          all_goals first
            | (have := HK.out; omega)
            | exact ⟨k + 1, by omega, by omega, Nat.le_refl _, by rw [HE1.out], HB2, ⟨fun t ht => by
                rcases Nat.lt_or_ge t k with h | h
                · exact HA.out t h
                · obtain rfl : t = k := by omega
                  exact Lib.keeps_pos (by rw [← rd_at xs t, show t - 1 = j by have := HJ.out; omega, ← rd_at xs j]; exact HQ.out)⟩⟩
      · obtain rfl : k = xs.length := by omega
        go_wp2
        go_ret
        exact ⟨_, rfl, by rw [Lib.compact_all xs HA.out]; exact Kd.R_below HR.out HB.out, ⟨HB.out.os, HB.out.tape, HB.out.output, HB.out.size, fun t ht _ => HB.out.block t ht⟩⟩
end Go.Proofs.Ytioooiflpabngaa.PAll
end
section
namespace Go.Proofs.Ytioooiflpabngaa.PAll
open Go.RowKit Go.Sort Go.Proofs.YtioooiflpabngaaW.PrintWords Go.Proofs.YtioooiflpabngaaW.PrintLast Go.Proofs.YtioooiflpabngaaW.PrintMore
set_option linter.unusedVariables false
set_option linter.unusedSimpArgs false
theorem collectL (Bs : Nat) (A : Option Addr) (cap : Nat) (zs : List S27) (w : World) (hlen : zs.length < 4398046511104) (HC : Kd.C k27 w A zs.length zs) (hBs : w.cell? ⟨Bs, 0, none⟩ = some (.slice A zs.length cap)) :
    Calls Try.prog 114 #[.func (.func 116) #[] #[.pointer (some ⟨Bs, 0, none⟩)]] w fun e w' => ∃ v, e = .returned v ∧ Kd.R k27 27 w' w.heap.size (fun _ => True) v zs ∧ Below w.heap.size w w' := by
  have HA := Aside0.mk (appendSeqL Bs A cap zs w hlen HC hBs)
  clear HC hBs
  go_enter Try.func114, Try.ntmps114
  go_wp2_with (go_at_call 128; refine HA.out.mono ?_; rintro e w2 ⟨v, rfl, hR, hb⟩; have HR := Aside0.mk hR; have HB := Aside0.mk hb; clear hR hb)
  go_ret
  exact ⟨_, rfl, HR.out, HB.out⟩
theorem below_grown {w w1 : World} {base : Nat} {α : Type} {d : Kd α} {e : Nat} {ok : Nat → Prop} {v : Value} {xs : List α} (hR : d.R e w base ok v xs) (hg : w.grownBy w1 v.ownBlock) (hb : base ≤ w.heap.size) : Below base w w1 :=
  (Below.refl _ _).grown hg hb (Kd.R_base hR)
theorem sortedFuncL (Bs : Nat) (A : Option Addr) (cap : Nat) (zs : List S27) (w : World) (hlen : zs.length < 4398046511104) (HC : Kd.C k27 w A zs.length zs) (hBs : w.cell? ⟨Bs, 0, none⟩ = some (.slice A zs.length cap)) :
    Calls Try.prog 80 #[.func (.func 116) #[] #[.pointer (some ⟨Bs, 0, none⟩)], .func (.func 42) #[] #[]] w fun e w' => ∃ v, e = .returned v ∧ Kd.R k27 27 w' w.heap.size (fun _ => True) v (sortedL zs) ∧ Below w.heap.size w w' := by
  have HA := Aside0.mk (collectL Bs A cap zs w hlen HC hBs)
  have HL := Aside0.mk hlen
  clear HC hBs hlen
  go_enter Try.func80, Try.ntmps80
  go_wp2_with (first | (go_at_call 114; refine HA.out.mono ?_; rintro e w2 ⟨v, rfl, hR, hb⟩; have HR := Aside0.mk hR; have HB := Aside0.mk hb; clear hR hb) | (go_at_call 115; refine (sortFuncL v zs _ w.heap.size (fun _ => True) HR.out HL.out).mono ?_; rintro e w3 ⟨rfl, hR3, hg3⟩; have HR3 := Aside0.mk hR3; have HG3 := Aside0.mk hg3; clear hR3 hg3))
  go_ret
  exact ⟨_, rfl, HR3.out, HB.out.trans (below_grown HR.out HG3.out HB.out.size)⟩
theorem label_Sort_calls (A0 : Option Addr) (c0 : Nat) (l0 : List S27) (w : World) (hr0 : Kd.C k27 w A0 l0.length l0) (hlen : l0.length < 4398046511104) :
    Calls Try.prog 35 #[.slice A0 l0.length c0] w fun e w' => ∃ v0_ : Value, e = .returned (v0_) ∧ Kd.R k27 27 w' w.heap.size (fun _ => True) v0_ (Lib.compact (sortedL l0)) ∧ Below w.heap.size w w' := by
  have HC := Aside0.mk hr0
  have HL := Aside0.mk hlen
  clear hr0 hlen
  go_enter Try.func35, Try.ntmps35
  go_wp2_with (first
    | (go_at_call 81; refine (valuesL A0 l0.length c0 _).mono ?_; rintro e w1 ⟨rfl, rfl⟩)
    | (go_at_call 80; refine (sortedFuncL w.heap.size A0 c0 l0 _ HL.out (Kd.C_alloc HC.out _) (by simp)).mono ?_; rintro e w2 ⟨v, rfl, hR, hb⟩; have HR := Aside0.mk hR; have HB := Aside0.mk hb; clear hR hb)
    | (go_at_call 79; refine (compactFuncL v (sortedL l0) _ _ (fun _ => True) HR.out (by rw [sortedL_length]; exact HL.out)).mono ?_; rintro e w3 ⟨v3, rfl, hR3, hg3⟩; have HR3 := Aside0.mk hR3; have HG3 := Aside0.mk hg3; clear hR3 hg3))
  go_ret
  refine ⟨_, rfl, ?_, ?_⟩
  · exact Kd.R_lower HR3.out (by simp)
  · exact ((Below.refl _ w).alloc (Nat.le_refl _) _).trans ((HB.out.mono (by simp)).trans (below_grown (Kd.R_lower HR.out (show w.heap.size ≤ _ by simp)) HG3.out (Nat.le_trans (by simp) HB.out.size)))
theorem mem_compact (zs : List S27) (x : S27) : x ∈ Lib.compact zs ↔ x ∈ zs := by
  unfold Lib.compact Lib.compactUpTo
  simp only [List.mem_map, List.mem_filter, List.mem_range]
  constructor
  · rintro ⟨i, ⟨hi, _⟩, rfl⟩
    simp [hi]
  · intro hx
    obtain ⟨i, hi, rfl⟩ := List.getElem_of_mem hx
    induction i with
    | zero => exact ⟨0, ⟨hi, Lib.keeps_lt_one _ 0 (by omega)⟩, by simp [hi]⟩
    | succ i ih =>
      by_cases hk : Lib.keeps zs.toArray (i + 1) = true
      · exact ⟨i + 1, ⟨hi, hk⟩, by simp [hi]⟩
      · have hi2 : i < zs.length := by omega
        have e : zs[i + 1] = zs[i] := by
          simp only [Lib.keeps, decide_eq_true_eq, not_or, Decidable.not_not] at hk
          have h2 := hk.2
          simpa [hi, hi2] using h2
        rw [e]
        exact ih hi2 (List.getElem_mem _)
theorem compact_rise {zs : List S27} (h : zs.Pairwise fun x y => ¬ ltL y x) : RiseL (Lib.compact zs) := by
  unfold Lib.compact Lib.compactUpTo RiseL
  refine List.pairwise_map.2 (List.Pairwise.imp_of_mem (fun {i j} hi hj hij => ?_) ((List.pairwise_lt_range (n := zs.length)).filter _))
  simp only [List.mem_filter, List.mem_range] at hi hj
  have hk := hj.2
  simp only [Lib.keeps, decide_eq_true_eq] at hk
  rcases hk with hk | hk
  · omega
  have hjl := hj.1
  have hil := hi.1
  have hj1 : j - 1 < zs.length := by omega
  have hp := List.pairwise_iff_getElem.1 h
  have e0 : zs.toArray[i]! = zs[i] := by simp [hil]
  have e1 : zs.toArray[j]! = zs[j] := by simp [hjl]
  have e2 : zs.toArray[j - 1]! = zs[j - 1] := by simp [hj1]
  rw [e1, e2] at hk
  rw [e0, e1]
  have h1 : ltL zs[j - 1] zs[j] := by
    rcases ltL_total zs[j - 1] zs[j] with a | a | a
    · exact a
    · exact absurd a.symm hk
    · exact absurd a (hp (j - 1) j hj1 hjl (by omega))
  rcases Nat.lt_or_ge i (j - 1) with hlt | hge
  · rcases ltL_total zs[i] zs[j - 1] with a | a | a
    · exact ltL_trans a h1
    · rw [a]; exact h1
    · exact absurd a (hp i (j - 1) hil hj1 hlt)
  · have : i = j - 1 := by omega
    subst this
    exact h1
theorem sortedL_pairwise (l : List S27) : (sortedL l).Pairwise fun x y => ¬ ltL y x := by
  unfold sortedL
  have := List.pairwise_mergeSort (le := fun x y => !(ltOf cmpL) y x) (fun a b c h1 h2 => by
    simp only [ltOf, Bool.not_eq_true', decide_eq_false_iff_not] at *
    rw [cmpL_neg] at *
    intro h3
    rcases ltL_total a b with h | h | h
    · rcases ltL_total b c with k | k | k
      · exact ltL_irrefl _ (ltL_trans h3 (ltL_trans h k))
      · subst k; exact h1 h3
      · exact h2 k
    · subst h; exact h2 h3
    · exact h1 h) (fun a b => by
    simp only [ltOf, Bool.or_eq_true, Bool.not_eq_true', decide_eq_false_iff_not]
    rw [cmpL_neg, cmpL_neg]
    rcases ltL_total a b with h | h | h
    · exact .inl fun k => ltL_irrefl _ (ltL_trans h k)
    · subst h; exact .inl (ltL_irrefl _)
    · exact .inr fun k => ltL_irrefl _ (ltL_trans h k)) l
  refine this.imp fun {x y} h => ?_
  simp only [ltOf, Bool.not_eq_true', decide_eq_false_iff_not] at h
  rwa [cmpL_neg] at h
theorem compact_sorted (l : List S27) : Lib.compact (sortedL l) = sortL l :=
  riseL_ext (compact_rise (sortedL_pairwise l)) (sortL_rise l) fun x => by
    rw [mem_compact, mem_sortL]
    unfold sortedL
    exact List.mem_mergeSort
theorem label_Sort.calls (A0 : Option Addr) (c0 : Nat) (l0 : List S27) (r : List S27) (w : World) (hr0 : Kd.C k27 w A0 l0.length l0) (hc0 : l0.length ≤ c0) (h : label_Sort.f l0 = some r) :
    Calls Try.prog 35 #[.slice A0 l0.length c0] w fun e w' => ∃ v0_ : Value, e = .returned (v0_) ∧ Kd.R k27 27 w' w.heap.size (fun _ => True) v0_ r ∧ Below w.heap.size w w' := by
  obtain ⟨hl, rfl⟩ := of_if_some h
  rw [← compact_sorted]
  exact label_Sort_calls A0 c0 l0 w hr0 hl
end Go.Proofs.Ytioooiflpabngaa.PAll
end
section
namespace Go.Proofs.Ytioooiflpabngaa.PAll
open Go.RowKit Go.Proofs.YtioooiflpabngaaW.PrintWords Go.Proofs.YtioooiflpabngaaW.PrintLast Go.Proofs.YtioooiflpabngaaW.PrintMore
attribute [local go_sem] max2_int min2_int max_two min_two max_three min_three max_four min_four   -- for this text's walks alone
set_option linter.unusedVariables false
set_option linter.unusedSimpArgs false
def label_Twice.f (l0 : List (S27)) : Option (Bool) := (label_Sort.f l0).bind fun t434 => (some (decide ((t434.length : Int) < (l0.length : Int))))
set_option maxHeartbeats 8000000 in
set_option maxRecDepth 100000 in
theorem label_Twice.calls (A0 : Option Addr) (c0 : Nat) (l0 : List (S27)) (r : Bool) (w : World) (hr0 : Kd.C k27 w A0 l0.length l0) (hc0 : l0.length ≤ c0) (h : label_Twice.f l0 = some r) :
  Calls Try.prog 38 #[.slice A0 l0.length c0] w fun e w' => e = .returned (.bool r) ∧ Below w.heap.size w w' := by
 have HR0 := Aside0.mk hr0
 have HC0 := Aside0.mk hc0
 clear hr0 hc0
 have HB := Aside0.mk (Below.refl w.heap.size w)
 have H : ((label_Sort.f l0).bind fun t434 => (some (decide ((t434.length : Int) < (l0.length : Int))))) = some r := h
 clear h
 replace H := Option.bind_eq_some_iff.mp H
 obtain ⟨t434, A20, H⟩ := H
 replace H : (some (decide ((t434.length : Int) < (l0.length : Int)))) = some r := H
 have A2 := Aside0.mk A20
 clear A20
 obtain rfl := Option.some.inj H
 go_enter Try.func38, Try.ntmps38
 go_wp2_with (first | ((with_reducible refine gate_callee (f := 35) rfl ?_); refine goesL_ (some 4) rfl rfl Try.func35 (by kernel_rfl) rfl #[.slice A0 l0.length c0] rfl za_ ?_; (with_reducible refine (label_Sort.calls _ _ l0 t434 _ ?side1 ?side2 A2.out).mono ?_); (case side1 => repeat (first | exact HR0.out | (with_reducible refine Kd.C_alloc ?_ _) | (with_reducible refine Kd.C_drewN ?_ _) | (with_reducible refine Kd.C_drew ?_))); (case side2 => exact HC0.out); rintro e w3 ⟨v435, rfl, ho0, hb⟩; refine ⟨_, rfl, ?_⟩; have n0_ := Aside0.mk (Kd.R_lower ho0 (below_size zb_)); have n1_ := Aside0.mk (below_step zb_ hb); clear HB; have HO436 := n0_; have HB := n1_; clear n0_ n1_; (try clear hb); (try clear hb2); (try clear hk); (try clear hi); (try clear ho0); obtain ⟨Ao4, co4, eo4⟩ := Kd.R_slice HO436.out; subst eo4))
 go_ret
 exact ⟨by first | rfl | (simp [errW_none, errW_some] <;> rfl) | (simp [*, errW_none, errW_some] <;> rfl), by repeat (first | (with_reducible first | exact HB.out | apply below_alloc | apply pw_below_drewN | apply below_drew1) | exact HB.out)⟩
end Go.Proofs.Ytioooiflpabngaa.PAll
end
section
namespace Go.Proofs.Ytioooiflpabngaa.PAll
open Go.RowKit Go.Proofs.YtioooiflpabngaaW.PrintWords Go.Proofs.YtioooiflpabngaaW.PrintLast Go.Proofs.YtioooiflpabngaaW.PrintMore
attribute [local go_sem] max2_int min2_int max_two min_two max_three min_three max_four min_four   -- for this text's walks alone
set_option linter.unusedVariables false
set_option linter.unusedSimpArgs false
def content_Right_1.f (a0_0 : Int) (a0_1 : Int) (a0_2 : Int) (a0_3 : Int) : Option (Bool) := (label_Form.f a0_0 a0_1 a0_2 a0_3).bind fun t518 => (some (!t518))
set_option maxHeartbeats 8000000 in
set_option maxRecDepth 100000 in
theorem content_Right_1.calls (a0_0 : Int) (a0_1 : Int) (a0_2 : Int) (a0_3 : Int) (r : Bool) (w : World) (h : content_Right_1.f a0_0 a0_1 a0_2 a0_3 = some r) :
  Calls Try.prog 106 #[.agg #[.int .u64 a0_0, .int .i64 a0_1, .int .u64 a0_2, .int .i64 a0_3]] w fun e w' => e = .returned (.bool r) ∧ Below w.heap.size w w' := by
 have hu27 := Try.underlying27
 have HB := Aside0.mk (Below.refl w.heap.size w)
 have H : ((label_Form.f a0_0 a0_1 a0_2 a0_3).bind fun t518 => (some (!t518))) = some r := h
 clear h
 replace H := Option.bind_eq_some_iff.mp H
 obtain ⟨t518, A20, H⟩ := H
 replace H : (some (!t518)) = some r := H
 have A2 := Aside0.mk A20
 clear A20
 obtain rfl := Option.some.inj H
 go_enter Try.func106, Try.ntmps106
 go_wp2_with (first | ((with_reducible refine gate_dst (N := 1) rfl ?_); refine box_event ?hg (N := 1) ?hd (cs := #[.int .u64 a0_0, .int .i64 a0_1, .int .u64 a0_2, .int .i64 a0_3]) (t := 27) ?hr ?_; (case hd => rfl); (case hg => rfl); (case hr => first | (go_simp; done) | (go_simp; rfl)); intro gb517 hg w3 hbox hb; have n0_ := Aside0.mk (below_step zb_ hb); have n1_ := Aside0.mk (hbox); have n2_ := Aside0.mk ((by rw [hg]; exact (below_size zb_) : w.heap.size ≤ gb517)); have n3_ := Aside0.mk ((by rw [hg]; exact (below_size zb_) : w.heap.size ≤ gb517)); clear HB; have HB := n0_; have BK517 := n1_; have GW517 := n2_; have GE517 := n3_; clear n0_ n1_ n2_ n3_; clear hb hbox hg; have hcz4_0 : w3.cell? ⟨gb517, 0, none⟩ = some (.int .u64 a0_0) := (blk_cell BK517.out 0).trans rfl; have hcz4_1 : w3.cell? ⟨gb517, 1, none⟩ = some (.int .i64 a0_1) := (blk_cell BK517.out 1).trans rfl; have hcz4_2 : w3.cell? ⟨gb517, 2, none⟩ = some (.int .u64 a0_2) := (blk_cell BK517.out 2).trans rfl; have hcz4_3 : w3.cell? ⟨gb517, 3, none⟩ = some (.int .i64 a0_3) := (blk_cell BK517.out 3).trans rfl; have hfz4_0 := blk_frozen BK517.out 0; have hfz4_1 := blk_frozen BK517.out 1; have hfz4_2 := blk_frozen BK517.out 2; have hfz4_3 := blk_frozen BK517.out 3) | ((with_reducible refine gate_callee (f := 40) rfl ?_); refine goesL_ (some 4) rfl rfl Try.func40 (by kernel_rfl) rfl #[.agg #[.int .u64 a0_0, .int .i64 a0_1, .int .u64 a0_2, .int .i64 a0_3]] rfl za_ ?_; (with_reducible refine (label_Form.calls a0_0 a0_1 a0_2 a0_3 t518 _ A2.out).mono ?_); rintro e w5 ⟨rfl, hb⟩; refine ⟨_, rfl, ?_⟩; have n0_ := zk_ BK517 hb; have n1_ := Aside0.mk (below_step zb_ hb); clear BK517; clear HB; have BK517 := n0_; have HB := n1_; clear n0_ n1_; (try clear hb); (try clear hb2); (try clear hk); (try clear hi)))
 go_ret
 exact ⟨by first | rfl | (simp [errW_none, errW_some] <;> rfl) | (simp [*, errW_none, errW_some] <;> rfl), by repeat (first | (with_reducible first | exact HB.out | apply below_alloc | apply pw_below_drewN | apply below_drew1 | refine below_set ?_ GE517.out) | exact HB.out)⟩
end Go.Proofs.Ytioooiflpabngaa.PAll
end
section
namespace Go.Proofs.Ytioooiflpabngaa.PAll
open Go.RowKit Go.Proofs.YtioooiflpabngaaW.PrintWords Go.Proofs.YtioooiflpabngaaW.PrintLast Go.Proofs.YtioooiflpabngaaW.PrintMore
attribute [local go_sem] max2_int min2_int max_two min_two max_three min_three max_four min_four   -- for this text's walks alone
set_option linter.unusedVariables false
set_option linter.unusedSimpArgs false
def api_Label_126.l0 : Nat → List (S27) → Int → Int → Option (Int)
 | 0, _, _, _ => none
 | k + 1, x0, x7, x8 => if x8 < x7 then (if 0 ≤ x8 then (if x8 < (x0.length : Int) then ((content_Right_1.f ((rd_T27 x0 x8).f0.f0) ((rd_T27 x0 x8).f0.f1) ((rd_T27 x0 x8).f1) ((rd_T27 x0 x8).f2)).bind fun t520 => (if t520 = true then (some x8) else (api_Label_126.l0 k x0 x7 (wrap64 (x8 + 1))))) else (none)) else (none)) else (some (-1))
def api_Label_126.f (k : Nat) (l0 : List (S27)) : Option (Int) := api_Label_126.l0 k l0 (l0.length : Int) 0
set_option maxHeartbeats 8000000 in
set_option maxRecDepth 100000 in
theorem api_Label_126.calls (k : Nat) (A0 : Option Addr) (c0 : Nat) (l0 : List (S27)) (r : Int) (w : World) (hr0 : Kd.C k27 w A0 l0.length l0) (hc0 : l0.length ≤ c0) (h : api_Label_126.f k l0 = some r) :
  Calls Try.prog 126 #[.slice A0 l0.length c0, .func (.func 106) #[] #[]] w fun e w' => e = .returned (.int .i64 r) ∧ Below w.heap.size w w' := by
 have hu27 := Try.underlying27
 have HR0 := Aside0.mk hr0
 have HC0 := Aside0.mk hc0
 clear hr0 hc0
 have HB := Aside0.mk (Below.refl w.heap.size w)
 have H : (api_Label_126.l0 k l0 (l0.length : Int) 0) = some r := h
 clear h
 have H' := Aside0.mk H
 clear H
 go_enter Try.func126, Try.ntmps126
 go_wp2
 go_loopg [8] k (fun kq v8 w' => ∃ (x8_1 : Int), v8 = .int .i64 x8_1 ∧ Aside0 (api_Label_126.l0 kq l0 (l0.length : Int) x8_1 = some r) ∧ Aside0 (kq ≤ k) ∧ Aside0 (Below w.heap.size w w'))
 case atStart => exact ⟨(0), (by first | rfl | (simp; done) | (simp [*]; done)), H', ⟨Nat.le_refl _⟩, ⟨by repeat (first | (with_reducible first | exact HB.out | apply below_alloc | apply pw_below_drewN | apply below_drew1) | exact HB.out)⟩⟩
 case round =>
  clear H'
  try clear c1
  obtain ⟨x8_1, rfl, HA, HK1, HB⟩ := hrel
  cases gk with
  | zero => exact absurd HA.out (by simp [api_Label_126.l0])
  | succ k1 =>
   have H := HA.out
   clear HA
   simp only [api_Label_126.l0] at H
   by_cases c2 : x8_1 < (l0.length : Int)
   ·
    rw [if_pos c2] at H
    have c2b0 : decide (x8_1 < (l0.length : Int)) = true := decide_eq_true c2
    clear c2
    by_cases c3 : 0 ≤ x8_1
    ·
     rw [if_pos c3] at H
     have c3b0 : decide (0 ≤ x8_1) = true := decide_eq_true c3
     clear c3
     by_cases c4 : x8_1 < (l0.length : Int)
     ·
      rw [if_pos c4] at H
      have c4b0 : decide (x8_1 < (l0.length : Int)) = true := decide_eq_true c4
      clear c4
      replace H := Option.bind_eq_some_iff.mp H
      obtain ⟨t520, A50, H⟩ := H
      replace H : (if t520 = true then (some x8_1) else (api_Label_126.l0 k1 l0 (l0.length : Int) (wrap64 (x8_1 + 1)))) = some r := H
      have A5 := Aside0.mk A50
      clear A50
      by_cases c6 : t520 = true
      ·
       subst c6
       have H1 : (some x8_1) = some r := by rw [if_pos rfl] at H; exact H
       clear H
       have H := H1
       clear H1
       obtain rfl := Option.some.inj H
       have p519 : 0 ≤ (x8_1 : Int) := of_decide_eq_true zs_
       have q519 : x8_1 < (l0.length : Int) := of_decide_eq_true zs_
       obtain ⟨ad519, e519, hx519_0, hx519_1, hx519_2, hx519_3⟩ := at_T27 HR0.out x8_1 p519 q519
       cases e519
       replace hx519_0 := (HB.out.cell (World.block_lt_of_cell? w _ hx519_0)).trans hx519_0
       replace hx519_1 := (HB.out.cell (World.block_lt_of_cell? w _ hx519_1)).trans hx519_1
       replace hx519_2 := (HB.out.cell (World.block_lt_of_cell? w _ hx519_2)).trans hx519_2
       replace hx519_3 := (HB.out.cell (World.block_lt_of_cell? w _ hx519_3)).trans hx519_3
       replace p519 := eq_true p519
       replace q519 := eq_true q519
       go_wp2_with (first | ((with_reducible refine gate_calleeV rfl ?_); refine goesLV_ (some 16) rfl rfl Try.func106 (by kernel_rfl) rfl #[.agg #[.int .u64 ((rd_T27 l0 x8_1).f0.f0), .int .i64 ((rd_T27 l0 x8_1).f0.f1), .int .u64 ((rd_T27 l0 x8_1).f1), .int .i64 ((rd_T27 l0 x8_1).f2)]] rfl rfl za_ ?_; (with_reducible refine (content_Right_1.calls ((rd_T27 l0 x8_1).f0.f0) ((rd_T27 l0 x8_1).f0.f1) ((rd_T27 l0 x8_1).f1) ((rd_T27 l0 x8_1).f2) true _ A5.out).mono ?_); rintro e w7 ⟨rfl, hb⟩; refine ⟨_, rfl, ?_⟩; have n0_ := Aside0.mk (below_step zb_ hb); clear HB; have HB := n0_; clear n0_; (try clear hb); (try clear hb2); (try clear hk); (try clear hi)))
       go_ret
       exact ⟨by first | rfl | (simp [errW_none, errW_some] <;> rfl) | (simp [*, errW_none, errW_some] <;> rfl), by repeat (first | (with_reducible first | exact HB.out | apply below_alloc | apply pw_below_drewN | apply below_drew1) | exact HB.out)⟩
      ·
       replace c6 := Bool.eq_false_iff.mpr c6
       subst c6
       have H1 : (api_Label_126.l0 k1 l0 (l0.length : Int) (wrap64 (x8_1 + 1))) = some r := by rw [if_neg (show ¬ (false = true) by decide)] at H; exact H
       clear H
       have H := H1
       clear H1
       have H' := Aside0.mk H
       clear H
       have p519 : 0 ≤ (x8_1 : Int) := of_decide_eq_true zs_
       have q519 : x8_1 < (l0.length : Int) := of_decide_eq_true zs_
       obtain ⟨ad519, e519, hx519_0, hx519_1, hx519_2, hx519_3⟩ := at_T27 HR0.out x8_1 p519 q519
       cases e519
       replace hx519_0 := (HB.out.cell (World.block_lt_of_cell? w _ hx519_0)).trans hx519_0
       replace hx519_1 := (HB.out.cell (World.block_lt_of_cell? w _ hx519_1)).trans hx519_1
       replace hx519_2 := (HB.out.cell (World.block_lt_of_cell? w _ hx519_2)).trans hx519_2
       replace hx519_3 := (HB.out.cell (World.block_lt_of_cell? w _ hx519_3)).trans hx519_3
       replace p519 := eq_true p519
       replace q519 := eq_true q519
       go_wp2_with (first | ((with_reducible refine gate_calleeV rfl ?_); refine goesLV_ (some 16) rfl rfl Try.func106 (by kernel_rfl) rfl #[.agg #[.int .u64 ((rd_T27 l0 x8_1).f0.f0), .int .i64 ((rd_T27 l0 x8_1).f0.f1), .int .u64 ((rd_T27 l0 x8_1).f1), .int .i64 ((rd_T27 l0 x8_1).f2)]] rfl rfl za_ ?_; (with_reducible refine (content_Right_1.calls ((rd_T27 l0 x8_1).f0.f0) ((rd_T27 l0 x8_1).f0.f1) ((rd_T27 l0 x8_1).f1) ((rd_T27 l0 x8_1).f2) false _ A5.out).mono ?_); rintro e w8 ⟨rfl, hb⟩; refine ⟨_, rfl, ?_⟩; have n0_ := Aside0.mk (below_step zb_ hb); clear HB; have HB := n0_; clear n0_; (try clear hb); (try clear hb2); (try clear hk); (try clear hi)))
       go_roundg k1
       case measure => have := HK1.out; omega
       case rel => exact ⟨(wrap64 (x8_1 + 1)), (by first | rfl | (simp; done) | (simp [*]; done)), H', ⟨by have := HK1.out; omega⟩, ⟨by repeat (first | (with_reducible first | exact HB.out | apply below_alloc | apply pw_below_drewN | apply below_drew1) | exact HB.out)⟩⟩
     ·
      rw [if_neg c4] at H
      exact absurd H (by simp)
    ·
     rw [if_neg c3] at H
     exact absurd H (by simp)
   ·
    rw [if_neg c2] at H
    have c2b0 : decide (x8_1 < (l0.length : Int)) = false := decide_eq_false c2
    clear c2
    obtain rfl := Option.some.inj H
    go_wp2
    go_ret
    exact ⟨by first | rfl | (simp [errW_none, errW_some] <;> rfl) | (simp [*, errW_none, errW_some] <;> rfl), by repeat (first | (with_reducible first | exact HB.out | apply below_alloc | apply pw_below_drewN | apply below_drew1) | exact HB.out)⟩
end Go.Proofs.Ytioooiflpabngaa.PAll
end
section
namespace Go.Proofs.Ytioooiflpabngaa.PAll
open Go.RowKit Go.Proofs.YtioooiflpabngaaW.PrintWords Go.Proofs.YtioooiflpabngaaW.PrintLast Go.Proofs.YtioooiflpabngaaW.PrintMore
attribute [local go_sem] max2_int min2_int max_two min_two max_three min_three max_four min_four   -- for this text's walks alone
set_option linter.unusedVariables false
set_option linter.unusedSimpArgs false
def api_Label_105.f (k : Nat) (l0 : List (S27)) : Option (Bool) := (api_Label_126.f k l0).bind fun t521 => (some (decide (t521 ≥ 0)))
set_option maxHeartbeats 8000000 in
set_option maxRecDepth 100000 in
theorem api_Label_105.calls (k : Nat) (A0 : Option Addr) (c0 : Nat) (l0 : List (S27)) (r : Bool) (w : World) (hr0 : Kd.C k27 w A0 l0.length l0) (hc0 : l0.length ≤ c0) (h : api_Label_105.f k l0 = some r) :
  Calls Try.prog 105 #[.slice A0 l0.length c0, .func (.func 106) #[] #[]] w fun e w' => e = .returned (.bool r) ∧ Below w.heap.size w w' := by
 have HR0 := Aside0.mk hr0
 have HC0 := Aside0.mk hc0
 clear hr0 hc0
 have HB := Aside0.mk (Below.refl w.heap.size w)
 have H : ((api_Label_126.f k l0).bind fun t521 => (some (decide (t521 ≥ 0)))) = some r := h
 clear h
 replace H := Option.bind_eq_some_iff.mp H
 obtain ⟨t521, A20, H⟩ := H
 replace H : (some (decide (t521 ≥ 0))) = some r := H
 have A2 := Aside0.mk A20
 clear A20
 obtain rfl := Option.some.inj H
 go_enter Try.func105, Try.ntmps105
 go_wp2_with (first | ((with_reducible refine gate_callee (f := 126) rfl ?_); refine goesL_ (some 7) rfl rfl Try.func126 (by kernel_rfl) rfl #[.slice A0 l0.length c0, .func (.func 106) #[] #[]] rfl za_ ?_; (with_reducible refine (api_Label_126.calls k _ _ l0 t521 _ ?side1 ?side2 A2.out).mono ?_); (case side1 => repeat (first | exact HR0.out | (with_reducible refine Kd.C_alloc ?_ _) | (with_reducible refine Kd.C_drewN ?_ _) | (with_reducible refine Kd.C_drew ?_))); (case side2 => exact HC0.out); rintro e w3 ⟨rfl, hb⟩; refine ⟨_, rfl, ?_⟩; have n0_ := Aside0.mk (below_step zb_ hb); clear HB; have HB := n0_; clear n0_; (try clear hb); (try clear hb2); (try clear hk); (try clear hi)))
 go_ret
 exact ⟨by first | rfl | (simp [errW_none, errW_some] <;> rfl) | (simp [*, errW_none, errW_some] <;> rfl), by repeat (first | (with_reducible first | exact HB.out | apply below_alloc | apply pw_below_drewN | apply below_drew1) | exact HB.out)⟩
end Go.Proofs.Ytioooiflpabngaa.PAll
end
section
namespace Go.Proofs.Ytioooiflpabngaa.PAll
open Go.RowKit Go.Proofs.YtioooiflpabngaaW.PrintWords Go.Proofs.YtioooiflpabngaaW.PrintLast Go.Proofs.YtioooiflpabngaaW.PrintMore
attribute [local go_sem] max2_int min2_int max_two min_two max_three min_three max_four min_four   -- for this text's walks alone
set_option linter.unusedVariables false
set_option linter.unusedSimpArgs false
def content_Right.l0 : Nat → List (S32) → Int → Int → List (S32) → List (S27) → Int → Int → Int → Option (Bool)
 | 0, _, _, _, _, _, _, _, _ => none
 | k + 1, x6, x7, x8, x523000, x523001, x523002, x523003, x523004 => if x8 < x7 then (if 0 ≤ x8 then (if x8 < (x6.length : Int) then ((content_Form.f ((rd_T32 x6 x8).f0.f0.f0) ((rd_T32 x6 x8).f0.f0.f1) ((rd_T32 x6 x8).f0.f1) ((rd_T32 x6 x8).f0.f2) ((rd_T32 x6 x8).f1)).bind fun t528 => (if t528 = true then (if x8 > 0 then (if 0 ≤ (wrap64 (x8 - 1)) then (if (wrap64 (x8 - 1)) < (x523000.length : Int) then ((label_Compare.f k ((rd_T32 x523000 (wrap64 (x8 - 1))).f0.f0.f0) ((rd_T32 x523000 (wrap64 (x8 - 1))).f0.f0.f1) ((rd_T32 x523000 (wrap64 (x8 - 1))).f0.f1) ((rd_T32 x523000 (wrap64 (x8 - 1))).f0.f2) ((rd_T32 x6 x8).f0.f0.f0) ((rd_T32 x6 x8).f0.f0.f1) ((rd_T32 x6 x8).f0.f1) ((rd_T32 x6 x8).f0.f2)).bind fun t530 => (if t530 ≥ 0 then (some false) else (content_Right.l0 k x6 x7 (wrap64 (x8 + 1)) x523000 x523001 x523002 x523003 x523004))) else (none)) else (none)) else (content_Right.l0 k x6 x7 (wrap64 (x8 + 1)) x523000 x523001 x523002 x523003 x523004)) else (some false))) else (none)) else (none)) else ((api_Label_105.f k x523001).bind fun t523 => (if t523 = true then (some false) else ((label_Twice.f x523001).bind fun t524 => (if t524 = true then (some false) else (if x523002 ≥ 1 then (if x523002 ≤ (wrap64 ((x523001.length : Int) + 1)) then ((ident_Form.f x523003 x523004).bind fun t525 => (some t525)) else (some false)) else (some false))))))
def content_Right.f (k : Nat) (l0_0 : List (S32)) (l0_1 : List (S27)) (a0_2 : Int) (a0_3 : Int) (a0_4 : Int) : Option (Bool) := content_Right.l0 k l0_0 (l0_0.length : Int) 0 l0_0 l0_1 a0_2 a0_3 a0_4
def content_Right.T4 : Bool × List (List Nat × List Nat) := (true, [([], []), ([0], [0]), ([1], [1]), ([2, 1], [2]), ([3], [3]), ([4, 3], [3, 4]), ([5, 3, 3], [3, 5]), ([6], [6]), ([7, 6], [6, 7]), ([6], [6]), ([9, 6], [6, 9]), ([8, 10, 6], [6, 8, 10]), ([11, 6], [6, 11]), ([12, 6], [6, 12]), ([6], [6]), ([14, 6], [6, 14]), ([13, 15, 6, 6], [6, 13, 15]), ([16, 6], [6, 16]), ([6, 17, 3], [3, 6, 17]), ([3, 18], [3, 18])])
def content_Right.B4 : List Nat := [0, 1, 3, 7, 15, 31, 63, 127, 255, 127, 639, 2047, 4095, 8191, 127, 16511, 65535, 131071, 262143, 524287]
theorem content_Right.tab4 : rtab .any (opsOf Try.f53 4) = content_Right.T4 := by kernel_rfl
theorem content_Right.bits4 : waitsOk content_Right.T4.2 content_Right.B4 = true := by kernel_rfl
set_option maxHeartbeats 8000000 in
set_option maxRecDepth 100000 in
theorem content_Right.calls (k : Nat) (A0_0 : Option Addr) (c0_0 : Nat) (l0_0 : List (S32)) (A0_1 : Option Addr) (c0_1 : Nat) (l0_1 : List (S27)) (a0_2 : Int) (a0_3 : Int) (a0_4 : Int) (r : Bool) (w : World) (hr0_0 : Kd.C k32 w A0_0 l0_0.length l0_0) (hc0_0 : l0_0.length ≤ c0_0) (hr0_1 : Kd.C k27 w A0_1 l0_1.length l0_1) (hc0_1 : l0_1.length ≤ c0_1) (h : content_Right.f k l0_0 l0_1 a0_2 a0_3 a0_4 = some r) :
  Calls Try.prog 53 #[.agg #[.slice A0_0 l0_0.length c0_0, .slice A0_1 l0_1.length c0_1, .int .i64 a0_2, .int .u64 a0_3, .int .i64 a0_4]] w fun e w' => e = .returned (.bool r) ∧ Below w.heap.size w w' := by
 have hu53 := Try.underlying53
 have hu32 := Try.underlying32
 have hu27 := Try.underlying27
 have hu25 := Try.underlying25
 have HR0_0 := Aside0.mk hr0_0
 have HC0_0 := Aside0.mk hc0_0
 clear hr0_0 hc0_0
 have HR0_1 := Aside0.mk hr0_1
 have HC0_1 := Aside0.mk hc0_1
 clear hr0_1 hc0_1
 have HB := Aside0.mk (Below.refl w.heap.size w)
 have H : (content_Right.l0 k l0_0 (l0_0.length : Int) 0 l0_0 l0_1 a0_2 a0_3 a0_4) = some r := h
 clear h
 have H' := Aside0.mk H
 clear H
 go_enter Try.func53, Try.ntmps53
 go_wp2_with (first | ((with_reducible refine gate_dst (N := 1) rfl ?_); (try (refine gate_guard (by rfl) ?_; dsimp only)); refine box_event ?hg (N := 1) ?hd (cs := #[.slice A0_0 l0_0.length c0_0, .slice A0_1 l0_1.length c0_1, .int .i64 a0_2, .int .u64 a0_3, .int .i64 a0_4]) (t := 53) ?hr ?_; (case hd => rfl); (case hg => rfl); (case hr => first | (go_simp; done) | (go_simp; rfl)); intro gb522 hg w2 hbox hb; have n0_ := Aside0.mk (below_step zb_ hb); have n1_ := Aside0.mk (hbox); have n2_ := Aside0.mk ((by rw [hg]; exact (below_size zb_) : w.heap.size ≤ gb522)); have n3_ := Aside0.mk ((by rw [hg]; exact (below_size zb_) : w.heap.size ≤ gb522)); clear HB; have HB := n0_; have BK522 := n1_; have GW522 := n2_; have GE522 := n3_; clear n0_ n1_ n2_ n3_; clear hb hbox hg; have hcz3_0 : w2.cell? ⟨gb522, 0, none⟩ = some (.slice A0_0 l0_0.length c0_0) := (blk_cell BK522.out 0).trans rfl; have hcz3_1 : w2.cell? ⟨gb522, 1, none⟩ = some (.slice A0_1 l0_1.length c0_1) := (blk_cell BK522.out 1).trans rfl; have hcz3_2 : w2.cell? ⟨gb522, 2, none⟩ = some (.int .i64 a0_2) := (blk_cell BK522.out 2).trans rfl; have hcz3_3 : w2.cell? ⟨gb522, 3, none⟩ = some (.int .u64 a0_3) := (blk_cell BK522.out 3).trans rfl; have hcz3_4 : w2.cell? ⟨gb522, 4, none⟩ = some (.int .i64 a0_4) := (blk_cell BK522.out 4).trans rfl; have hfz3_0 := blk_frozen BK522.out 0; have hfz3_1 := blk_frozen BK522.out 1; have hfz3_2 := blk_frozen BK522.out 2; have hfz3_3 := blk_frozen BK522.out 3; have hfz3_4 := blk_frozen BK522.out 4))
 go_loopg [8] k (fun kq v8 w' => ∃ (x8_1 : Int), v8 = .int .i64 x8_1 ∧ Aside0 (content_Right.l0 kq l0_0 (l0_0.length : Int) x8_1 l0_0 l0_1 a0_2 a0_3 a0_4 = some r) ∧ Aside0 (kq ≤ k) ∧ Aside0 (w'.heap[gb522]? = some (.cells #[(.slice A0_0 l0_0.length c0_0), (.slice A0_1 l0_1.length c0_1), .int .i64 a0_2, .int .u64 a0_3, .int .i64 a0_4] 53 (0, 0))) ∧ Aside0 (Below w.heap.size w w'))
 case atStart => exact ⟨(0), (by first | rfl | (simp; done) | (simp [*]; done)), H', ⟨Nat.le_refl _⟩, ⟨by (with_reducible repeat (first | refine blk_drewN ?_ _ | refine blk_drew ?_ | refine blk_alloc ?_ _)); exact BK522.out⟩, ⟨by repeat (first | (with_reducible first | exact HB.out | apply below_alloc | apply pw_below_drewN | apply below_drew1 | refine below_set ?_ GE522.out) | exact HB.out)⟩⟩
 case round =>
  clear H'
  try clear p2
  try clear hcz3_0
  try clear hcz3_1
  try clear hcz3_2
  try clear hcz3_3
  try clear hcz3_4
  try clear hfz3_0
  try clear hfz3_1
  try clear hfz3_2
  try clear hfz3_3
  try clear hfz3_4
  obtain ⟨x8_1, rfl, HA, HK1, BK522, HB⟩ := hrel
  cases gk with
  | zero => exact absurd HA.out (by simp [content_Right.l0])
  | succ k1 =>
   have H := HA.out
   clear HA
   simp only [content_Right.l0] at H
   by_cases c4 : x8_1 < (l0_0.length : Int)
   ·
    rw [if_pos c4] at H
    have c4b0 : decide (x8_1 < (l0_0.length : Int)) = true := decide_eq_true c4
    clear c4
    by_cases c5 : 0 ≤ x8_1
    ·
     rw [if_pos c5] at H
     have c5b0 : decide (0 ≤ x8_1) = true := decide_eq_true c5
     clear c5
     by_cases c6 : x8_1 < (l0_0.length : Int)
     ·
      rw [if_pos c6] at H
      have c6b0 : decide (x8_1 < (l0_0.length : Int)) = true := decide_eq_true c6
      clear c6
      replace H := Option.bind_eq_some_iff.mp H
      obtain ⟨t528, A70, H⟩ := H
      replace H : (if t528 = true then (if x8_1 > 0 then (if 0 ≤ (wrap64 (x8_1 - 1)) then (if (wrap64 (x8_1 - 1)) < (l0_0.length : Int) then ((label_Compare.f k1 ((rd_T32 l0_0 (wrap64 (x8_1 - 1))).f0.f0.f0) ((rd_T32 l0_0 (wrap64 (x8_1 - 1))).f0.f0.f1) ((rd_T32 l0_0 (wrap64 (x8_1 - 1))).f0.f1) ((rd_T32 l0_0 (wrap64 (x8_1 - 1))).f0.f2) ((rd_T32 l0_0 x8_1).f0.f0.f0) ((rd_T32 l0_0 x8_1).f0.f0.f1) ((rd_T32 l0_0 x8_1).f0.f1) ((rd_T32 l0_0 x8_1).f0.f2)).bind fun t530 => (if t530 ≥ 0 then (some false) else (content_Right.l0 k1 l0_0 (l0_0.length : Int) (wrap64 (x8_1 + 1)) l0_0 l0_1 a0_2 a0_3 a0_4))) else (none)) else (none)) else (content_Right.l0 k1 l0_0 (l0_0.length : Int) (wrap64 (x8_1 + 1)) l0_0 l0_1 a0_2 a0_3 a0_4)) else (some false)) = some r := H
      have A7 := Aside0.mk A70
      clear A70
      by_cases c8 : t528 = true
      ·
       subst c8
       have H1 : (if x8_1 > 0 then (if 0 ≤ (wrap64 (x8_1 - 1)) then (if (wrap64 (x8_1 - 1)) < (l0_0.length : Int) then ((label_Compare.f k1 ((rd_T32 l0_0 (wrap64 (x8_1 - 1))).f0.f0.f0) ((rd_T32 l0_0 (wrap64 (x8_1 - 1))).f0.f0.f1) ((rd_T32 l0_0 (wrap64 (x8_1 - 1))).f0.f1) ((rd_T32 l0_0 (wrap64 (x8_1 - 1))).f0.f2) ((rd_T32 l0_0 x8_1).f0.f0.f0) ((rd_T32 l0_0 x8_1).f0.f0.f1) ((rd_T32 l0_0 x8_1).f0.f1) ((rd_T32 l0_0 x8_1).f0.f2)).bind fun t530 => (if t530 ≥ 0 then (some false) else (content_Right.l0 k1 l0_0 (l0_0.length : Int) (wrap64 (x8_1 + 1)) l0_0 l0_1 a0_2 a0_3 a0_4))) else (none)) else (none)) else (content_Right.l0 k1 l0_0 (l0_0.length : Int) (wrap64 (x8_1 + 1)) l0_0 l0_1 a0_2 a0_3 a0_4)) = some r := by rw [if_pos rfl] at H; exact H
       clear H
       have H := H1
       clear H1
       by_cases c9 : x8_1 > 0
       ·
        rw [if_pos c9] at H
        have c9b0 : decide (0 < x8_1) = true := decide_eq_true c9
        clear c9
        obtain ⟨ji10, hji10⟩ : ∃ j_ : Int, (wrap64 (x8_1 - 1)) = j_ := ⟨_, rfl⟩
        replace H : (if 0 ≤ (ji10) then (if (ji10) < (l0_0.length : Int) then ((label_Compare.f k1 ((rd_T32 l0_0 (ji10)).f0.f0.f0) ((rd_T32 l0_0 (ji10)).f0.f0.f1) ((rd_T32 l0_0 (ji10)).f0.f1) ((rd_T32 l0_0 (ji10)).f0.f2) ((rd_T32 l0_0 x8_1).f0.f0.f0) ((rd_T32 l0_0 x8_1).f0.f0.f1) ((rd_T32 l0_0 x8_1).f0.f1) ((rd_T32 l0_0 x8_1).f0.f2)).bind fun t530 => (if t530 ≥ 0 then (some false) else (content_Right.l0 k1 l0_0 (l0_0.length : Int) (wrap64 (x8_1 + 1)) l0_0 l0_1 a0_2 a0_3 a0_4))) else (none)) else (none)) = some r := by first | (rw [hji10] at H; exact H) | (simp only [hji10] at H ⊢; exact H)
        (try rw [hji10] at A7)
        have hji10w : (IntKind.i64.wrap (x8_1 - 1)) = ji10 := (i64_w _).trans hji10
        by_cases c11 : 0 ≤ (ji10)
        ·
         rw [if_pos c11] at H
         have c11b0 : decide (0 ≤ (ji10)) = true := decide_eq_true c11
         clear c11
         by_cases c12 : (ji10) < (l0_0.length : Int)
         ·
          rw [if_pos c12] at H
          have c12b0 : decide ((ji10) < (l0_0.length : Int)) = true := decide_eq_true c12
          clear c12
          replace H := Option.bind_eq_some_iff.mp H
          obtain ⟨t530, A130, H⟩ := H
          replace H : (if t530 ≥ 0 then (some false) else (content_Right.l0 k1 l0_0 (l0_0.length : Int) (wrap64 (x8_1 + 1)) l0_0 l0_1 a0_2 a0_3 a0_4)) = some r := H
          have A13 := Aside0.mk A130
          clear A130
          by_cases c14 : t530 ≥ 0
          ·
           rw [if_pos c14] at H
           have c14b0 : decide (0 ≤ t530) = true := decide_eq_true c14
           clear c14
           obtain rfl := Option.some.inj H
           have p526 : 0 ≤ (x8_1 : Int) := of_decide_eq_true zs_
           have q526 : x8_1 < (l0_0.length : Int) := of_decide_eq_true zs_
           obtain ⟨ad526, A526_4, c526_4, e526, hx526_0, hx526_1, hx526_2, hx526_3, hx526_4, hl526_4, hi526_4⟩ := at_T32 HR0_0.out x8_1 p526 q526
           cases e526
           replace hx526_0 := (HB.out.cell (World.block_lt_of_cell? w _ hx526_0)).trans hx526_0
           replace hx526_1 := (HB.out.cell (World.block_lt_of_cell? w _ hx526_1)).trans hx526_1
           replace hx526_2 := (HB.out.cell (World.block_lt_of_cell? w _ hx526_2)).trans hx526_2
           replace hx526_3 := (HB.out.cell (World.block_lt_of_cell? w _ hx526_3)).trans hx526_3
           replace hx526_4 := (HB.out.cell (World.block_lt_of_cell? w _ hx526_4)).trans hx526_4
           have HR526_4 := Aside0.mk hi526_4
           have HC526_4 := Aside0.mk hl526_4
           clear hi526_4 hl526_4
           replace p526 := eq_true p526
           replace q526 := eq_true q526
           try go_wp2_with (first | ((with_reducible refine gate_dst (N := 4) rfl ?_); (try (refine gate_guard (by rfl) ?_; dsimp only)); refine box_event ?hg (N := 4) ?hd (cs := #[.int .u64 0, .int .i64 0, .int .u64 0, .int .i64 0, .slice none 0 0]) (t := 32) ?hr ?_; (case hd => rfl); (case hg => rfl); (case hr => first | (go_simp; done) | (go_simp; rfl)); intro gb527 hg w15 hbox hb; have n0_ := zk_ BK522 hb; have n1_ := Aside0.mk (below_step zb_ hb); have n2_ := Aside0.mk (hbox); have n3_ := Aside0.mk ((by rw [hg]; exact (below_size zb_) : w.heap.size ≤ gb527)); have n4_ := Aside0.mk ((by rw [hg]; exact (below_size zb_) : w.heap.size ≤ gb527)); have n5_ := Aside0.mk ((by rw [hg]; exact Nat.ne_of_lt (blk_lt (g := gb522) (o := .cells #[.slice (some ad526) l0_0.length c0_0, .slice A0_1 l0_1.length c0_1, .int .i64 a0_2, .int .u64 a0_3, .int .i64 a0_4] 53 (0, 0)) (by (with_reducible repeat (first | refine blk_drewN ?_ _ | refine blk_drew ?_ | refine blk_alloc ?_ _)); exact BK522.out)) : gb522 ≠ gb527)); have n6_ := Aside0.mk ((by rw [hg]; exact Nat.ne_of_gt (blk_lt (g := gb522) (o := .cells #[.slice (some ad526) l0_0.length c0_0, .slice A0_1 l0_1.length c0_1, .int .i64 a0_2, .int .u64 a0_3, .int .i64 a0_4] 53 (0, 0)) (by (with_reducible repeat (first | refine blk_drewN ?_ _ | refine blk_drew ?_ | refine blk_alloc ?_ _)); exact BK522.out)) : gb527 ≠ gb522)); clear BK522; clear HB; have BK522 := n0_; have HB := n1_; have BK527 := n2_; have GW527 := n3_; have GE527 := n4_; have NB522_527 := n5_; have NB527_522 := n6_; clear n0_ n1_ n2_ n3_ n4_ n5_ n6_; clear hb hbox hg; have hnb16 := NB527_522.out; have hnc16 := NB522_527.out; have hcz17_0 : w15.cell? ⟨gb527, 0, none⟩ = some (.int .u64 0) := (blk_cell BK527.out 0).trans rfl; have hcz17_1 : w15.cell? ⟨gb527, 1, none⟩ = some (.int .i64 0) := (blk_cell BK527.out 1).trans rfl; have hcz17_2 : w15.cell? ⟨gb527, 2, none⟩ = some (.int .u64 0) := (blk_cell BK527.out 2).trans rfl; have hcz17_3 : w15.cell? ⟨gb527, 3, none⟩ = some (.int .i64 0) := (blk_cell BK527.out 3).trans rfl; have hcz17_4 : w15.cell? ⟨gb527, 4, none⟩ = some (.slice none 0 0) := (blk_cell BK527.out 4).trans rfl; have hfz17_0 := blk_frozen BK527.out 0; have hfz17_1 := blk_frozen BK527.out 1; have hfz17_2 := blk_frozen BK527.out 2; have hfz17_3 := blk_frozen BK527.out 3; have hfz17_4 := blk_frozen BK527.out 4))
           have n0_ : Aside0 ((((((w15.setCell ⟨gb527, 0, none⟩ (.int .u64 ((rd_T32 l0_0 x8_1).f0.f0.f0))).setCell ⟨gb527, 1, none⟩ (.int .i64 ((rd_T32 l0_0 x8_1).f0.f0.f1))).setCell ⟨gb527, 2, none⟩ (.int .u64 ((rd_T32 l0_0 x8_1).f0.f1))).setCell ⟨gb527, 3, none⟩ (.int .i64 ((rd_T32 l0_0 x8_1).f0.f2))).setCell ⟨gb527, 4, none⟩ (.slice A526_4 ((rd_T32 l0_0 x8_1).f1).length c526_4)).heap[gb522]? = some (.cells #[.slice (some ad526) l0_0.length c0_0, .slice A0_1 l0_1.length c0_1, .int .i64 a0_2, .int .u64 a0_3, .int .i64 a0_4] 53 (0, 0))) := ⟨by (with_reducible repeat (first | refine blk_drewN ?_ _ | refine blk_drew ?_ | refine blk_alloc ?_ _)); refine blk_far ?_ NB522_527.out _; (with_reducible repeat (first | refine blk_drewN ?_ _ | refine blk_drew ?_ | refine blk_alloc ?_ _)); refine blk_far ?_ NB522_527.out _; (with_reducible repeat (first | refine blk_drewN ?_ _ | refine blk_drew ?_ | refine blk_alloc ?_ _)); refine blk_far ?_ NB522_527.out _; (with_reducible repeat (first | refine blk_drewN ?_ _ | refine blk_drew ?_ | refine blk_alloc ?_ _)); refine blk_far ?_ NB522_527.out _; (with_reducible repeat (first | refine blk_drewN ?_ _ | refine blk_drew ?_ | refine blk_alloc ?_ _)); refine blk_far ?_ NB522_527.out _; (with_reducible repeat (first | refine blk_drewN ?_ _ | refine blk_drew ?_ | refine blk_alloc ?_ _)); exact BK522.out⟩
           have n1_ : Aside0 ((((((w15.setCell ⟨gb527, 0, none⟩ (.int .u64 ((rd_T32 l0_0 x8_1).f0.f0.f0))).setCell ⟨gb527, 1, none⟩ (.int .i64 ((rd_T32 l0_0 x8_1).f0.f0.f1))).setCell ⟨gb527, 2, none⟩ (.int .u64 ((rd_T32 l0_0 x8_1).f0.f1))).setCell ⟨gb527, 3, none⟩ (.int .i64 ((rd_T32 l0_0 x8_1).f0.f2))).setCell ⟨gb527, 4, none⟩ (.slice A526_4 ((rd_T32 l0_0 x8_1).f1).length c526_4)).heap[gb527]? = some (.cells #[.int .u64 ((rd_T32 l0_0 x8_1).f0.f0.f0), .int .i64 ((rd_T32 l0_0 x8_1).f0.f0.f1), .int .u64 ((rd_T32 l0_0 x8_1).f0.f1), .int .i64 ((rd_T32 l0_0 x8_1).f0.f2), .slice A526_4 ((rd_T32 l0_0 x8_1).f1).length c526_4] 32 (0, 0))) := ⟨by (with_reducible repeat (first | refine blk_drewN ?_ _ | refine blk_drew ?_ | refine blk_alloc ?_ _)); refine blk_put (cs := #[.int .u64 ((rd_T32 l0_0 x8_1).f0.f0.f0), .int .i64 ((rd_T32 l0_0 x8_1).f0.f0.f1), .int .u64 ((rd_T32 l0_0 x8_1).f0.f1), .int .i64 ((rd_T32 l0_0 x8_1).f0.f2), .slice none 0 0]) ?_ 4 _ rfl; (with_reducible repeat (first | refine blk_drewN ?_ _ | refine blk_drew ?_ | refine blk_alloc ?_ _)); refine blk_put (cs := #[.int .u64 ((rd_T32 l0_0 x8_1).f0.f0.f0), .int .i64 ((rd_T32 l0_0 x8_1).f0.f0.f1), .int .u64 ((rd_T32 l0_0 x8_1).f0.f1), .int .i64 0, .slice none 0 0]) ?_ 3 _ rfl; (with_reducible repeat (first | refine blk_drewN ?_ _ | refine blk_drew ?_ | refine blk_alloc ?_ _)); refine blk_put (cs := #[.int .u64 ((rd_T32 l0_0 x8_1).f0.f0.f0), .int .i64 ((rd_T32 l0_0 x8_1).f0.f0.f1), .int .u64 0, .int .i64 0, .slice none 0 0]) ?_ 2 _ rfl; (with_reducible repeat (first | refine blk_drewN ?_ _ | refine blk_drew ?_ | refine blk_alloc ?_ _)); refine blk_put (cs := #[.int .u64 ((rd_T32 l0_0 x8_1).f0.f0.f0), .int .i64 0, .int .u64 0, .int .i64 0, .slice none 0 0]) ?_ 1 _ rfl; (with_reducible repeat (first | refine blk_drewN ?_ _ | refine blk_drew ?_ | refine blk_alloc ?_ _)); refine blk_put (cs := #[.int .u64 0, .int .i64 0, .int .u64 0, .int .i64 0, .slice none 0 0]) ?_ 0 _ rfl; (with_reducible repeat (first | refine blk_drewN ?_ _ | refine blk_drew ?_ | refine blk_alloc ?_ _)); exact BK527.out⟩
           have n2_ : Aside0 (Below w.heap.size w (((((w15.setCell ⟨gb527, 0, none⟩ (.int .u64 ((rd_T32 l0_0 x8_1).f0.f0.f0))).setCell ⟨gb527, 1, none⟩ (.int .i64 ((rd_T32 l0_0 x8_1).f0.f0.f1))).setCell ⟨gb527, 2, none⟩ (.int .u64 ((rd_T32 l0_0 x8_1).f0.f1))).setCell ⟨gb527, 3, none⟩ (.int .i64 ((rd_T32 l0_0 x8_1).f0.f2))).setCell ⟨gb527, 4, none⟩ (.slice A526_4 ((rd_T32 l0_0 x8_1).f1).length c526_4))) := ⟨by repeat (first | (with_reducible first | exact HB.out | apply below_alloc | apply pw_below_drewN | apply below_drew1 | refine below_set ?_ GE522.out | refine below_set ?_ GE527.out) | exact HB.out)⟩
           (try clear BK522)
           (try clear BK527)
           (try clear HB)
           generalize (((((w15.setCell ⟨gb527, 0, none⟩ (.int .u64 ((rd_T32 l0_0 x8_1).f0.f0.f0))).setCell ⟨gb527, 1, none⟩ (.int .i64 ((rd_T32 l0_0 x8_1).f0.f0.f1))).setCell ⟨gb527, 2, none⟩ (.int .u64 ((rd_T32 l0_0 x8_1).f0.f1))).setCell ⟨gb527, 3, none⟩ (.int .i64 ((rd_T32 l0_0 x8_1).f0.f2))).setCell ⟨gb527, 4, none⟩ (.slice A526_4 ((rd_T32 l0_0 x8_1).f1).length c526_4)) = w18 at n0_ n1_ n2_ ⊢
           have BK522 := n0_
           have BK527 := n1_
           have HB := n2_
           clear n0_ n1_ n2_
           have n0_ := Aside0.mk (blk_drew BK522.out)
           have n1_ := Aside0.mk (blk_drew BK527.out)
           have n2_ := Aside0.mk (below_drew1 HB.out)
           clear BK522
           clear BK527
           clear HB
           have BK522 := n0_
           have BK527 := n1_
           have HB := n2_
           clear n0_ n1_ n2_
           have p529 : 0 ≤ ((ji10) : Int) := of_decide_eq_true zs_
           have q529 : (ji10) < (l0_0.length : Int) := of_decide_eq_true zs_
           obtain ⟨ad529, A529_4, c529_4, e529, hx529_0, hx529_1, hx529_2, hx529_3, hx529_4, hl529_4, hi529_4⟩ := at_T32 HR0_0.out (ji10) p529 q529
           have hw529_4 := hx529_4
           have hw529_3 := hx529_3
           have hw529_2 := hx529_2
           have hw529_1 := hx529_1
           have hw529_0 := hx529_0
           obtain rfl : ad526 = ad529 := (by injection e529)
           replace hx529_0 := (HB.out.cell (World.block_lt_of_cell? w _ hx529_0)).trans hx529_0
           replace hx529_1 := (HB.out.cell (World.block_lt_of_cell? w _ hx529_1)).trans hx529_1
           replace hx529_2 := (HB.out.cell (World.block_lt_of_cell? w _ hx529_2)).trans hx529_2
           replace hx529_3 := (HB.out.cell (World.block_lt_of_cell? w _ hx529_3)).trans hx529_3
           replace hx529_4 := (HB.out.cell (World.block_lt_of_cell? w _ hx529_4)).trans hx529_4
           have HR529_4 := Aside0.mk hi529_4
           have HC529_4 := Aside0.mk hl529_4
           clear hi529_4 hl529_4
           replace p529 := eq_true p529
           replace q529 := eq_true q529
           refine start_ (n := 20) (S := fun w' => w'.cell? ⟨gb527, 0, none⟩ = some (.int .u64 ((rd_T32 l0_0 x8_1).f0.f0.f0)) ∧ w'.cell? ⟨gb527, 1, none⟩ = some (.int .i64 ((rd_T32 l0_0 x8_1).f0.f0.f1)) ∧ w'.cell? ⟨gb527, 2, none⟩ = some (.int .u64 ((rd_T32 l0_0 x8_1).f0.f1)) ∧ w'.cell? ⟨gb527, 3, none⟩ = some (.int .i64 ((rd_T32 l0_0 x8_1).f0.f2)) ∧ w'.cell? ⟨gb527, 4, none⟩ = some (.slice A526_4 ((rd_T32 l0_0 x8_1).f1).length c526_4) ∧ w'.cell? ⟨gb522, 0, none⟩ = some (.slice (some ad526) l0_0.length c0_0) ∧ w'.cell? ⟨gb522, 1, none⟩ = some (.slice A0_1 l0_1.length c0_1) ∧ w'.cell? ⟨gb522, 2, none⟩ = some (.int .i64 a0_2) ∧ w'.cell? ⟨gb522, 3, none⟩ = some (.int .u64 a0_3) ∧ w'.cell? ⟨gb522, 4, none⟩ = some (.int .i64 a0_4) ∧ w'.cell? (ad526.add (((ji10)).toNat * 5)) = some (.int .u64 ((rd_T32 l0_0 (ji10)).f0.f0.f0)) ∧ w'.cell? ⟨(ad526.add (((ji10)).toNat * 5)).block, (ad526.add (((ji10)).toNat * 5)).off + 1, none⟩ = some (.int .i64 ((rd_T32 l0_0 (ji10)).f0.f0.f1)) ∧ w'.cell? ⟨(ad526.add (((ji10)).toNat * 5)).block, (ad526.add (((ji10)).toNat * 5)).off + 2, none⟩ = some (.int .u64 ((rd_T32 l0_0 (ji10)).f0.f1)) ∧ w'.cell? ⟨(ad526.add (((ji10)).toNat * 5)).block, (ad526.add (((ji10)).toNat * 5)).off + 3, none⟩ = some (.int .i64 ((rd_T32 l0_0 (ji10)).f0.f2)) ∧ w'.cell? ⟨(ad526.add (((ji10)).toNat * 5)).block, (ad526.add (((ji10)).toNat * 5)).off + 4, none⟩ = some (.slice A529_4 ((rd_T32 l0_0 (ji10)).f1).length c529_4)) (ds := []) #[F_,F_,F_,F_,F_,F_,F_,F_,F_,F_,F_,F_,F_,F_,F_,F_,F_,F_,F_,F_] (by kernel_rfl) rfl rfl ⟨(blk_cell BK527.out 0).trans rfl, (blk_cell BK527.out 1).trans rfl, (blk_cell BK527.out 2).trans rfl, (blk_cell BK527.out 3).trans rfl, (blk_cell BK527.out 4).trans rfl, (blk_cell BK522.out 0).trans rfl, (blk_cell BK522.out 1).trans rfl, (blk_cell BK522.out 2).trans rfl, (blk_cell BK522.out 3).trans rfl, (blk_cell BK522.out 4).trans rfl, ((HB.out.cell (World.block_lt_of_cell? w _ hw529_0)).trans hw529_0), ((HB.out.cell (World.block_lt_of_cell? w _ hw529_1)).trans hw529_1), ((HB.out.cell (World.block_lt_of_cell? w _ hw529_2)).trans hw529_2), ((HB.out.cell (World.block_lt_of_cell? w _ hw529_3)).trans hw529_3), ((HB.out.cell (World.block_lt_of_cell? w _ hw529_4)).trans hw529_4)⟩ (fun hHeld => ?_); refine with_tabW content_Right.tab4 content_Right.bits4 (fun HT_ HW_ => ?_)
           generalize w18.drew = w19 at BK522 BK527 HB HR529_4 hx529_0 hx529_1 hx529_2 hx529_3 hx529_4 hHeld ⊢
           refine take_ (i := 0) (N := some 13) (v := ?_) (a' := ?_) #[T_,F_,F_,F_,F_,F_,F_,F_,F_,F_,F_,F_,F_,F_,F_,F_,F_,F_,F_,F_] rfl rfl (take_ofW HT_.out HW_.out (by kernel_rfl)) (fun _ _ _ h => h) (Or.inl ⟨by rfl, ?_⟩) hHeld ?_ ?_
           rotate_left
           ·
            rintro w' ⟨s0, s1, s2, s3, s4, s5, s6, s7, s8, s9, s10, s11, s12, s13, s14⟩
            go_simp
            with_reducible rfl
           rotate_left
           ·
            exact zp_
           refine one_ (i := 1) (N := some 14) #[T_,T_,F_,F_,F_,F_,F_,F_,F_,F_,F_,F_,F_,F_,F_,F_,F_,F_,F_,F_] rfl rfl (one_of HT_.out (by kernel_rfl)) (by decide) (fun K hK => ?_)
           refine goes_ Try.func49 (by kernel_rfl) rfl #[.agg #[.int .u64 ((rd_T32 l0_0 x8_1).f0.f0.f0), .int .i64 ((rd_T32 l0_0 x8_1).f0.f0.f1), .int .u64 ((rd_T32 l0_0 x8_1).f0.f1), .int .i64 ((rd_T32 l0_0 x8_1).f0.f2), .slice A526_4 ((rd_T32 l0_0 x8_1).f1).length c526_4]] (by rfl) rfl rfl za_ ?_
           with_reducible refine (content_Form.calls ((rd_T32 l0_0 x8_1).f0.f0.f0) ((rd_T32 l0_0 x8_1).f0.f0.f1) ((rd_T32 l0_0 x8_1).f0.f1) ((rd_T32 l0_0 x8_1).f0.f2) _ _ ((rd_T32 l0_0 x8_1).f1) true _ ?side1 ?side2 A7.out).mono ?_
           (case side1 => exact zc_ HR526_4 HB)
           (case side2 => exact HC526_4.out)
           rintro e w20 ⟨rfl, hb⟩
           refine ⟨_, rfl, ?_⟩
           have n0_ := zk_ BK522 hb
           have n1_ := zk_ BK527 hb
           have n2_ := Aside0.mk (below_step zb_ hb)
           clear BK522
           clear BK527
           clear HB
           have BK522 := n0_
           have BK527 := n1_
           have HB := n2_
           clear n0_ n1_ n2_
           (try clear hb)
           (try clear hb2)
           (try clear hk)
           (try clear hi)
           refine hK.out _ _ ⟨(blk_cell BK527.out 0).trans rfl, (blk_cell BK527.out 1).trans rfl, (blk_cell BK527.out 2).trans rfl, (blk_cell BK527.out 3).trans rfl, (blk_cell BK527.out 4).trans rfl, (blk_cell BK522.out 0).trans rfl, (blk_cell BK522.out 1).trans rfl, (blk_cell BK522.out 2).trans rfl, (blk_cell BK522.out 3).trans rfl, (blk_cell BK522.out 4).trans rfl, ((HB.out.cell (World.block_lt_of_cell? w _ hw529_0)).trans hw529_0), ((HB.out.cell (World.block_lt_of_cell? w _ hw529_1)).trans hw529_1), ((HB.out.cell (World.block_lt_of_cell? w _ hw529_2)).trans hw529_2), ((HB.out.cell (World.block_lt_of_cell? w _ hw529_3)).trans hw529_3), ((HB.out.cell (World.block_lt_of_cell? w _ hw529_4)).trans hw529_4)⟩ (fun hHeld => ?_)
           clear hK K
           refine norm_ (a' := ?_) ?_ ?_
           rotate_left
           ·
            show Act.put _ (some 14) _ = _
            simp only [Act.put, List.setIfInBounds_toArray, List.set_cons_zero, List.set_cons_succ, i64_w, i32_w]
            rfl
           refine pure_ (i := 2) (N := some 15) (v := ?_) (a' := ?_) #[T_,T_,T_,F_,F_,F_,F_,F_,F_,F_,F_,F_,F_,F_,F_,F_,F_,F_,F_,F_] rfl rfl (any_of HT_.out (by kernel_rfl)) (fun _ _ _ h => h) (Or.inl ⟨by rfl, ?_⟩) ?_ ?_
           rotate_left
           ·
            intro w'; go_simp; with_reducible rfl
           rotate_left
           ·
            exact zp_
           refine pure_ (i := 3) (N := some 16) (v := ?_) (a' := ?_) #[T_,T_,T_,T_,F_,F_,F_,F_,F_,F_,F_,F_,F_,F_,F_,F_,F_,F_,F_,F_] rfl rfl (any_of HT_.out (by kernel_rfl)) (fun _ _ _ h => h) (Or.inl ⟨by rfl, ?_⟩) ?_ ?_
           rotate_left
           ·
            intro w'; go_simp; with_reducible rfl
           rotate_left
           ·
            exact zp_
           refine pure_ (i := 4) (N := some 17) (v := ?_) (a' := ?_) #[T_,T_,T_,T_,T_,F_,F_,F_,F_,F_,F_,F_,F_,F_,F_,F_,F_,F_,F_,F_] rfl rfl (any_of HT_.out (by kernel_rfl)) (fun _ _ _ h => h) (Or.inl ⟨by rfl, ?_⟩) ?_ ?_
           rotate_left
           ·
            intro w'; go_simp; with_reducible rfl
           rotate_left
           ·
            exact zp_
           refine pure_ (i := 5) (N := some 18) (v := ?_) (a' := ?_) #[T_,T_,T_,T_,T_,T_,F_,F_,F_,F_,F_,F_,F_,F_,F_,F_,F_,F_,F_,F_] rfl rfl (any_of HT_.out (by kernel_rfl)) (fun _ _ _ h => h) (Or.inl ⟨by rfl, ?_⟩) ?_ ?_
           rotate_left
           ·
            intro w'; go_simp; with_reducible rfl
           rotate_left
           ·
            exact zp_
           refine pure_ (i := 6) (N := some 19) (v := ?_) (a' := ?_) #[T_,T_,T_,T_,T_,T_,T_,F_,F_,F_,F_,F_,F_,F_,F_,F_,F_,F_,F_,F_] rfl rfl (any_of HT_.out (by kernel_rfl)) (fun _ _ _ h => h) (Or.inl ⟨by rfl, ?_⟩) ?_ ?_
           rotate_left
           ·
            intro w'; go_simp; with_reducible rfl
           rotate_left
           ·
            exact zp_
           refine pure_ (i := 7) (N := some 20) (v := ?_) (a' := ?_) #[T_,T_,T_,T_,T_,T_,T_,T_,F_,F_,F_,F_,F_,F_,F_,F_,F_,F_,F_,F_] rfl rfl (any_of HT_.out (by kernel_rfl)) (fun _ _ _ h => h) (Or.inl ⟨by rfl, ?_⟩) ?_ ?_
           rotate_left
           ·
            intro w'; go_simp; with_reducible rfl
           rotate_left
           ·
            exact zp_
           refine pure_ (i := 9) (N := some 22) (v := ?_) (a' := ?_) #[T_,T_,T_,T_,T_,T_,T_,T_,F_,T_,F_,F_,F_,F_,F_,F_,F_,F_,F_,F_] rfl rfl (any_of HT_.out (by kernel_rfl)) (fun _ _ _ h => h) (Or.inl ⟨by rfl, ?_⟩) ?_ ?_
           rotate_left
           ·
            intro w'; go_simp; with_reducible rfl
           rotate_left
           ·
            exact zp_
           refine pure_ (i := 10) (N := some 23) (v := ?_) (a' := ?_) #[T_,T_,T_,T_,T_,T_,T_,T_,F_,T_,T_,F_,F_,F_,F_,F_,F_,F_,F_,F_] rfl rfl (any_of HT_.out (by kernel_rfl)) (fun _ _ _ h => h) (Or.inl ⟨by rfl, ?_⟩) ?_ ?_
           rotate_left
           ·
            intro w'; go_simp; with_reducible rfl
           rotate_left
           ·
            exact zp_
           refine pure_ (i := 14) (N := some 27) (v := ?_) (a' := ?_) #[T_,T_,T_,T_,T_,T_,T_,T_,F_,T_,T_,F_,F_,F_,T_,F_,F_,F_,F_,F_] rfl rfl (any_of HT_.out (by kernel_rfl)) (fun _ _ _ h => h) (Or.inl ⟨by rfl, ?_⟩) ?_ ?_
           rotate_left
           ·
            intro w'; go_simp; with_reducible rfl
           rotate_left
           ·
            exact zp_
           refine take_ (i := 8) (N := some 21) (v := ?_) (a' := ?_) #[T_,T_,T_,T_,T_,T_,T_,T_,T_,T_,T_,F_,F_,F_,T_,F_,F_,F_,F_,F_] rfl rfl (take_ofW HT_.out HW_.out (by kernel_rfl)) (fun _ _ _ h => h) (Or.inl ⟨by rfl, ?_⟩) hHeld ?_ ?_
           rotate_left
           ·
            rintro w' ⟨s0, s1, s2, s3, s4, s5, s6, s7, s8, s9, s10, s11, s12, s13, s14⟩
            go_simp
            with_reducible rfl
           rotate_left
           ·
            exact zp_
           refine pure_ (i := 11) (N := some 24) (v := ?_) (a' := ?_) #[T_,T_,T_,T_,T_,T_,T_,T_,T_,T_,T_,T_,F_,F_,T_,F_,F_,F_,F_,F_] rfl rfl (any_of HT_.out (by kernel_rfl)) (fun _ _ _ h => h) (Or.inl ⟨by rfl, ?_⟩) ?_ ?_
           rotate_left
           ·
            intro w'; go_simp; with_reducible rfl
           rotate_left
           ·
            exact zp_
           refine pure_ (i := 12) (N := some 25) (v := ?_) (a' := ?_) #[T_,T_,T_,T_,T_,T_,T_,T_,T_,T_,T_,T_,T_,F_,T_,F_,F_,F_,F_,F_] rfl rfl (any_of HT_.out (by kernel_rfl)) (fun _ _ _ h => h) (Or.inl ⟨by rfl, ?_⟩) ?_ ?_
           rotate_left
           ·
            intro w'; go_simp; with_reducible rfl
           rotate_left
           ·
            exact zp_
           refine take_ (i := 13) (N := some 26) (v := ?_) (a' := ?_) #[T_,T_,T_,T_,T_,T_,T_,T_,T_,T_,T_,T_,T_,T_,T_,F_,F_,F_,F_,F_] rfl rfl (take_ofW HT_.out HW_.out (by kernel_rfl)) (fun _ _ _ h => h) (Or.inl ⟨by rfl, ?_⟩) hHeld ?_ ?_
           rotate_left
           ·
            rintro w' ⟨s0, s1, s2, s3, s4, s5, s6, s7, s8, s9, s10, s11, s12, s13, s14⟩
            go_simp
            with_reducible rfl
           rotate_left
           ·
            exact zp_
           refine take_ (i := 15) (N := some 28) (v := ?_) (a' := ?_) #[T_,T_,T_,T_,T_,T_,T_,T_,T_,T_,T_,T_,T_,T_,T_,T_,F_,F_,F_,F_] rfl rfl (take_ofW HT_.out HW_.out (by kernel_rfl)) (fun _ _ _ h => h) (Or.inl ⟨by rfl, ?_⟩) hHeld ?_ ?_
           rotate_left
           ·
            rintro w' ⟨s0, s1, s2, s3, s4, s5, s6, s7, s8, s9, s10, s11, s12, s13, s14⟩
            go_simp
            with_reducible rfl
           rotate_left
           ·
            exact zp_
           refine one_ (i := 16) (N := some 29) #[T_,T_,T_,T_,T_,T_,T_,T_,T_,T_,T_,T_,T_,T_,T_,T_,T_,F_,F_,F_] rfl rfl (one_of HT_.out (by kernel_rfl)) (by decide) (fun K hK => ?_)
           refine goes_ Try.func42 (by kernel_rfl) rfl #[.agg #[.int .u64 ((rd_T32 l0_0 (ji10)).f0.f0.f0), .int .i64 ((rd_T32 l0_0 (ji10)).f0.f0.f1), .int .u64 ((rd_T32 l0_0 (ji10)).f0.f1), .int .i64 ((rd_T32 l0_0 (ji10)).f0.f2)], .agg #[.int .u64 ((rd_T32 l0_0 x8_1).f0.f0.f0), .int .i64 ((rd_T32 l0_0 x8_1).f0.f0.f1), .int .u64 ((rd_T32 l0_0 x8_1).f0.f1), .int .i64 ((rd_T32 l0_0 x8_1).f0.f2)]] (by rfl) rfl rfl (by (try simp only [List.map_toArray, List.map_cons, List.map_nil]); first | done | (simp only [hji10]; rfl) | rfl | (simp only [List.length_drop, List.length_take]; rfl)) ?_
           with_reducible refine (label_Compare.calls k1 ((rd_T32 l0_0 (ji10)).f0.f0.f0) ((rd_T32 l0_0 (ji10)).f0.f0.f1) ((rd_T32 l0_0 (ji10)).f0.f1) ((rd_T32 l0_0 (ji10)).f0.f2) ((rd_T32 l0_0 x8_1).f0.f0.f0) ((rd_T32 l0_0 x8_1).f0.f0.f1) ((rd_T32 l0_0 x8_1).f0.f1) ((rd_T32 l0_0 x8_1).f0.f2) t530 _ A13.out).mono ?_
           rintro e w21 ⟨rfl, hb⟩
           refine ⟨_, rfl, ?_⟩
           have n0_ := zk_ BK522 hb
           have n1_ := zk_ BK527 hb
           have n2_ := Aside0.mk (below_step zb_ hb)
           clear BK522
           clear BK527
           clear HB
           have BK522 := n0_
           have BK527 := n1_
           have HB := n2_
           clear n0_ n1_ n2_
           (try clear hb)
           (try clear hb2)
           (try clear hk)
           (try clear hi)
           refine hK.out _ _ ⟨(blk_cell BK527.out 0).trans rfl, (blk_cell BK527.out 1).trans rfl, (blk_cell BK527.out 2).trans rfl, (blk_cell BK527.out 3).trans rfl, (blk_cell BK527.out 4).trans rfl, (blk_cell BK522.out 0).trans rfl, (blk_cell BK522.out 1).trans rfl, (blk_cell BK522.out 2).trans rfl, (blk_cell BK522.out 3).trans rfl, (blk_cell BK522.out 4).trans rfl, ((HB.out.cell (World.block_lt_of_cell? w _ hw529_0)).trans hw529_0), ((HB.out.cell (World.block_lt_of_cell? w _ hw529_1)).trans hw529_1), ((HB.out.cell (World.block_lt_of_cell? w _ hw529_2)).trans hw529_2), ((HB.out.cell (World.block_lt_of_cell? w _ hw529_3)).trans hw529_3), ((HB.out.cell (World.block_lt_of_cell? w _ hw529_4)).trans hw529_4)⟩ (fun hHeld => ?_)
           clear hK K
           refine norm_ (a' := ?_) ?_ ?_
           rotate_left
           ·
            show Act.put _ (some 29) _ = _
            simp only [Act.put, List.setIfInBounds_toArray, List.set_cons_zero, List.set_cons_succ, i64_w, i32_w]
            rfl
           refine pure_ (i := 17) (N := some 30) (v := ?_) (a' := ?_) #[T_,T_,T_,T_,T_,T_,T_,T_,T_,T_,T_,T_,T_,T_,T_,T_,T_,T_,F_,F_] rfl rfl (any_of HT_.out (by kernel_rfl)) (fun _ _ _ h => h) (Or.inl ⟨by rfl, ?_⟩) ?_ ?_
           rotate_left
           ·
            intro w'; go_simp; with_reducible rfl
           rotate_left
           ·
            exact zp_
           refine pure_ (i := 18) (N := some 31) (v := ?_) (a' := ?_) #[T_,T_,T_,T_,T_,T_,T_,T_,T_,T_,T_,T_,T_,T_,T_,T_,T_,T_,T_,F_] rfl rfl (any_of HT_.out (by kernel_rfl)) (fun _ _ _ h => h) (Or.inl ⟨by rfl, ?_⟩) ?_ ?_
           rotate_left
           ·
            intro w'; go_simp; with_reducible rfl
           rotate_left
           ·
            exact zp_
           refine pure_ (i := 19) (N := some 32) (v := ?_) (a' := ?_) #[T_,T_,T_,T_,T_,T_,T_,T_,T_,T_,T_,T_,T_,T_,T_,T_,T_,T_,T_,T_] rfl rfl (any_of HT_.out (by kernel_rfl)) (fun _ _ _ h => h) (Or.inl ⟨by rfl, ?_⟩) ?_ ?_
           rotate_left
           ·
            intro w'; go_simp; with_reducible rfl
           rotate_left
           ·
            exact zp_
           refine done_ (done_of HT_.out (by kernel_rfl)) ?_
           (try clear hHeld); (try clear HS0_)
           try go_wp2
           go_ret
           exact ⟨by first | rfl | (simp [errW_none, errW_some] <;> rfl) | (simp only [← hji10]; first | rfl | (simp [errW_none, errW_some] <;> rfl)) | (simp [*, errW_none, errW_some] <;> rfl), by repeat (first | (with_reducible first | exact HB.out | apply below_alloc | apply pw_below_drewN | apply below_drew1 | refine below_set ?_ GE522.out | refine below_set ?_ GE527.out) | exact HB.out)⟩
          ·
           rw [if_neg c14] at H
           have c14b0 : decide (0 ≤ t530) = false := decide_eq_false c14
           clear c14
           have H' := Aside0.mk H
           clear H
           have p526 : 0 ≤ (x8_1 : Int) := of_decide_eq_true zs_
           have q526 : x8_1 < (l0_0.length : Int) := of_decide_eq_true zs_
           obtain ⟨ad526, A526_4, c526_4, e526, hx526_0, hx526_1, hx526_2, hx526_3, hx526_4, hl526_4, hi526_4⟩ := at_T32 HR0_0.out x8_1 p526 q526
           cases e526
           replace hx526_0 := (HB.out.cell (World.block_lt_of_cell? w _ hx526_0)).trans hx526_0
           replace hx526_1 := (HB.out.cell (World.block_lt_of_cell? w _ hx526_1)).trans hx526_1
           replace hx526_2 := (HB.out.cell (World.block_lt_of_cell? w _ hx526_2)).trans hx526_2
           replace hx526_3 := (HB.out.cell (World.block_lt_of_cell? w _ hx526_3)).trans hx526_3
           replace hx526_4 := (HB.out.cell (World.block_lt_of_cell? w _ hx526_4)).trans hx526_4
           have HR526_4 := Aside0.mk hi526_4
           have HC526_4 := Aside0.mk hl526_4
           clear hi526_4 hl526_4
           replace p526 := eq_true p526
           replace q526 := eq_true q526
           try go_wp2_with (first | ((with_reducible refine gate_dst (N := 4) rfl ?_); (try (refine gate_guard (by rfl) ?_; dsimp only)); refine box_event ?hg (N := 4) ?hd (cs := #[.int .u64 0, .int .i64 0, .int .u64 0, .int .i64 0, .slice none 0 0]) (t := 32) ?hr ?_; (case hd => rfl); (case hg => rfl); (case hr => first | (go_simp; done) | (go_simp; rfl)); intro gb527 hg w22 hbox hb; have n0_ := zk_ BK522 hb; have n1_ := Aside0.mk (below_step zb_ hb); have n2_ := Aside0.mk (hbox); have n3_ := Aside0.mk ((by rw [hg]; exact (below_size zb_) : w.heap.size ≤ gb527)); have n4_ := Aside0.mk ((by rw [hg]; exact (below_size zb_) : w.heap.size ≤ gb527)); have n5_ := Aside0.mk ((by rw [hg]; exact Nat.ne_of_lt (blk_lt (g := gb522) (o := .cells #[.slice (some ad526) l0_0.length c0_0, .slice A0_1 l0_1.length c0_1, .int .i64 a0_2, .int .u64 a0_3, .int .i64 a0_4] 53 (0, 0)) (by (with_reducible repeat (first | refine blk_drewN ?_ _ | refine blk_drew ?_ | refine blk_alloc ?_ _)); exact BK522.out)) : gb522 ≠ gb527)); have n6_ := Aside0.mk ((by rw [hg]; exact Nat.ne_of_gt (blk_lt (g := gb522) (o := .cells #[.slice (some ad526) l0_0.length c0_0, .slice A0_1 l0_1.length c0_1, .int .i64 a0_2, .int .u64 a0_3, .int .i64 a0_4] 53 (0, 0)) (by (with_reducible repeat (first | refine blk_drewN ?_ _ | refine blk_drew ?_ | refine blk_alloc ?_ _)); exact BK522.out)) : gb527 ≠ gb522)); clear BK522; clear HB; have BK522 := n0_; have HB := n1_; have BK527 := n2_; have GW527 := n3_; have GE527 := n4_; have NB522_527 := n5_; have NB527_522 := n6_; clear n0_ n1_ n2_ n3_ n4_ n5_ n6_; clear hb hbox hg; have hnb23 := NB527_522.out; have hnc23 := NB522_527.out; have hcz24_0 : w22.cell? ⟨gb527, 0, none⟩ = some (.int .u64 0) := (blk_cell BK527.out 0).trans rfl; have hcz24_1 : w22.cell? ⟨gb527, 1, none⟩ = some (.int .i64 0) := (blk_cell BK527.out 1).trans rfl; have hcz24_2 : w22.cell? ⟨gb527, 2, none⟩ = some (.int .u64 0) := (blk_cell BK527.out 2).trans rfl; have hcz24_3 : w22.cell? ⟨gb527, 3, none⟩ = some (.int .i64 0) := (blk_cell BK527.out 3).trans rfl; have hcz24_4 : w22.cell? ⟨gb527, 4, none⟩ = some (.slice none 0 0) := (blk_cell BK527.out 4).trans rfl; have hfz24_0 := blk_frozen BK527.out 0; have hfz24_1 := blk_frozen BK527.out 1; have hfz24_2 := blk_frozen BK527.out 2; have hfz24_3 := blk_frozen BK527.out 3; have hfz24_4 := blk_frozen BK527.out 4))
           have n0_ : Aside0 ((((((w22.setCell ⟨gb527, 0, none⟩ (.int .u64 ((rd_T32 l0_0 x8_1).f0.f0.f0))).setCell ⟨gb527, 1, none⟩ (.int .i64 ((rd_T32 l0_0 x8_1).f0.f0.f1))).setCell ⟨gb527, 2, none⟩ (.int .u64 ((rd_T32 l0_0 x8_1).f0.f1))).setCell ⟨gb527, 3, none⟩ (.int .i64 ((rd_T32 l0_0 x8_1).f0.f2))).setCell ⟨gb527, 4, none⟩ (.slice A526_4 ((rd_T32 l0_0 x8_1).f1).length c526_4)).heap[gb522]? = some (.cells #[.slice (some ad526) l0_0.length c0_0, .slice A0_1 l0_1.length c0_1, .int .i64 a0_2, .int .u64 a0_3, .int .i64 a0_4] 53 (0, 0))) := ⟨by (with_reducible repeat (first | refine blk_drewN ?_ _ | refine blk_drew ?_ | refine blk_alloc ?_ _)); refine blk_far ?_ NB522_527.out _; (with_reducible repeat (first | refine blk_drewN ?_ _ | refine blk_drew ?_ | refine blk_alloc ?_ _)); refine blk_far ?_ NB522_527.out _; (with_reducible repeat (first | refine blk_drewN ?_ _ | refine blk_drew ?_ | refine blk_alloc ?_ _)); refine blk_far ?_ NB522_527.out _; (with_reducible repeat (first | refine blk_drewN ?_ _ | refine blk_drew ?_ | refine blk_alloc ?_ _)); refine blk_far ?_ NB522_527.out _; (with_reducible repeat (first | refine blk_drewN ?_ _ | refine blk_drew ?_ | refine blk_alloc ?_ _)); refine blk_far ?_ NB522_527.out _; (with_reducible repeat (first | refine blk_drewN ?_ _ | refine blk_drew ?_ | refine blk_alloc ?_ _)); exact BK522.out⟩
           have n1_ : Aside0 ((((((w22.setCell ⟨gb527, 0, none⟩ (.int .u64 ((rd_T32 l0_0 x8_1).f0.f0.f0))).setCell ⟨gb527, 1, none⟩ (.int .i64 ((rd_T32 l0_0 x8_1).f0.f0.f1))).setCell ⟨gb527, 2, none⟩ (.int .u64 ((rd_T32 l0_0 x8_1).f0.f1))).setCell ⟨gb527, 3, none⟩ (.int .i64 ((rd_T32 l0_0 x8_1).f0.f2))).setCell ⟨gb527, 4, none⟩ (.slice A526_4 ((rd_T32 l0_0 x8_1).f1).length c526_4)).heap[gb527]? = some (.cells #[.int .u64 ((rd_T32 l0_0 x8_1).f0.f0.f0), .int .i64 ((rd_T32 l0_0 x8_1).f0.f0.f1), .int .u64 ((rd_T32 l0_0 x8_1).f0.f1), .int .i64 ((rd_T32 l0_0 x8_1).f0.f2), .slice A526_4 ((rd_T32 l0_0 x8_1).f1).length c526_4] 32 (0, 0))) := ⟨by (with_reducible repeat (first | refine blk_drewN ?_ _ | refine blk_drew ?_ | refine blk_alloc ?_ _)); refine blk_put (cs := #[.int .u64 ((rd_T32 l0_0 x8_1).f0.f0.f0), .int .i64 ((rd_T32 l0_0 x8_1).f0.f0.f1), .int .u64 ((rd_T32 l0_0 x8_1).f0.f1), .int .i64 ((rd_T32 l0_0 x8_1).f0.f2), .slice none 0 0]) ?_ 4 _ rfl; (with_reducible repeat (first | refine blk_drewN ?_ _ | refine blk_drew ?_ | refine blk_alloc ?_ _)); refine blk_put (cs := #[.int .u64 ((rd_T32 l0_0 x8_1).f0.f0.f0), .int .i64 ((rd_T32 l0_0 x8_1).f0.f0.f1), .int .u64 ((rd_T32 l0_0 x8_1).f0.f1), .int .i64 0, .slice none 0 0]) ?_ 3 _ rfl; (with_reducible repeat (first | refine blk_drewN ?_ _ | refine blk_drew ?_ | refine blk_alloc ?_ _)); refine blk_put (cs := #[.int .u64 ((rd_T32 l0_0 x8_1).f0.f0.f0), .int .i64 ((rd_T32 l0_0 x8_1).f0.f0.f1), .int .u64 0, .int .i64 0, .slice none 0 0]) ?_ 2 _ rfl; (with_reducible repeat (first | refine blk_drewN ?_ _ | refine blk_drew ?_ | refine blk_alloc ?_ _)); refine blk_put (cs := #[.int .u64 ((rd_T32 l0_0 x8_1).f0.f0.f0), .int .i64 0, .int .u64 0, .int .i64 0, .slice none 0 0]) ?_ 1 _ rfl; (with_reducible repeat (first | refine blk_drewN ?_ _ | refine blk_drew ?_ | refine blk_alloc ?_ _)); refine blk_put (cs := #[.int .u64 0, .int .i64 0, .int .u64 0, .int .i64 0, .slice none 0 0]) ?_ 0 _ rfl; (with_reducible repeat (first | refine blk_drewN ?_ _ | refine blk_drew ?_ | refine blk_alloc ?_ _)); exact BK527.out⟩
           have n2_ : Aside0 (Below w.heap.size w (((((w22.setCell ⟨gb527, 0, none⟩ (.int .u64 ((rd_T32 l0_0 x8_1).f0.f0.f0))).setCell ⟨gb527, 1, none⟩ (.int .i64 ((rd_T32 l0_0 x8_1).f0.f0.f1))).setCell ⟨gb527, 2, none⟩ (.int .u64 ((rd_T32 l0_0 x8_1).f0.f1))).setCell ⟨gb527, 3, none⟩ (.int .i64 ((rd_T32 l0_0 x8_1).f0.f2))).setCell ⟨gb527, 4, none⟩ (.slice A526_4 ((rd_T32 l0_0 x8_1).f1).length c526_4))) := ⟨by repeat (first | (with_reducible first | exact HB.out | apply below_alloc | apply pw_below_drewN | apply below_drew1 | refine below_set ?_ GE522.out | refine below_set ?_ GE527.out) | exact HB.out)⟩
           (try clear BK522)
           (try clear BK527)
           (try clear HB)
           generalize (((((w22.setCell ⟨gb527, 0, none⟩ (.int .u64 ((rd_T32 l0_0 x8_1).f0.f0.f0))).setCell ⟨gb527, 1, none⟩ (.int .i64 ((rd_T32 l0_0 x8_1).f0.f0.f1))).setCell ⟨gb527, 2, none⟩ (.int .u64 ((rd_T32 l0_0 x8_1).f0.f1))).setCell ⟨gb527, 3, none⟩ (.int .i64 ((rd_T32 l0_0 x8_1).f0.f2))).setCell ⟨gb527, 4, none⟩ (.slice A526_4 ((rd_T32 l0_0 x8_1).f1).length c526_4)) = w25 at n0_ n1_ n2_ ⊢
           have BK522 := n0_
           have BK527 := n1_
           have HB := n2_
           clear n0_ n1_ n2_
           have n0_ := Aside0.mk (blk_drew BK522.out)
           have n1_ := Aside0.mk (blk_drew BK527.out)
           have n2_ := Aside0.mk (below_drew1 HB.out)
           clear BK522
           clear BK527
           clear HB
           have BK522 := n0_
           have BK527 := n1_
           have HB := n2_
           clear n0_ n1_ n2_
           have p529 : 0 ≤ ((ji10) : Int) := of_decide_eq_true zs_
           have q529 : (ji10) < (l0_0.length : Int) := of_decide_eq_true zs_
           obtain ⟨ad529, A529_4, c529_4, e529, hx529_0, hx529_1, hx529_2, hx529_3, hx529_4, hl529_4, hi529_4⟩ := at_T32 HR0_0.out (ji10) p529 q529
           have hw529_4 := hx529_4
           have hw529_3 := hx529_3
           have hw529_2 := hx529_2
           have hw529_1 := hx529_1
           have hw529_0 := hx529_0
           obtain rfl : ad526 = ad529 := (by injection e529)
           replace hx529_0 := (HB.out.cell (World.block_lt_of_cell? w _ hx529_0)).trans hx529_0
           replace hx529_1 := (HB.out.cell (World.block_lt_of_cell? w _ hx529_1)).trans hx529_1
           replace hx529_2 := (HB.out.cell (World.block_lt_of_cell? w _ hx529_2)).trans hx529_2
           replace hx529_3 := (HB.out.cell (World.block_lt_of_cell? w _ hx529_3)).trans hx529_3
           replace hx529_4 := (HB.out.cell (World.block_lt_of_cell? w _ hx529_4)).trans hx529_4
           have HR529_4 := Aside0.mk hi529_4
           have HC529_4 := Aside0.mk hl529_4
           clear hi529_4 hl529_4
           replace p529 := eq_true p529
           replace q529 := eq_true q529
           refine start_ (n := 20) (S := fun w' => w'.cell? ⟨gb527, 0, none⟩ = some (.int .u64 ((rd_T32 l0_0 x8_1).f0.f0.f0)) ∧ w'.cell? ⟨gb527, 1, none⟩ = some (.int .i64 ((rd_T32 l0_0 x8_1).f0.f0.f1)) ∧ w'.cell? ⟨gb527, 2, none⟩ = some (.int .u64 ((rd_T32 l0_0 x8_1).f0.f1)) ∧ w'.cell? ⟨gb527, 3, none⟩ = some (.int .i64 ((rd_T32 l0_0 x8_1).f0.f2)) ∧ w'.cell? ⟨gb527, 4, none⟩ = some (.slice A526_4 ((rd_T32 l0_0 x8_1).f1).length c526_4) ∧ w'.cell? ⟨gb522, 0, none⟩ = some (.slice (some ad526) l0_0.length c0_0) ∧ w'.cell? ⟨gb522, 1, none⟩ = some (.slice A0_1 l0_1.length c0_1) ∧ w'.cell? ⟨gb522, 2, none⟩ = some (.int .i64 a0_2) ∧ w'.cell? ⟨gb522, 3, none⟩ = some (.int .u64 a0_3) ∧ w'.cell? ⟨gb522, 4, none⟩ = some (.int .i64 a0_4) ∧ w'.cell? (ad526.add (((ji10)).toNat * 5)) = some (.int .u64 ((rd_T32 l0_0 (ji10)).f0.f0.f0)) ∧ w'.cell? ⟨(ad526.add (((ji10)).toNat * 5)).block, (ad526.add (((ji10)).toNat * 5)).off + 1, none⟩ = some (.int .i64 ((rd_T32 l0_0 (ji10)).f0.f0.f1)) ∧ w'.cell? ⟨(ad526.add (((ji10)).toNat * 5)).block, (ad526.add (((ji10)).toNat * 5)).off + 2, none⟩ = some (.int .u64 ((rd_T32 l0_0 (ji10)).f0.f1)) ∧ w'.cell? ⟨(ad526.add (((ji10)).toNat * 5)).block, (ad526.add (((ji10)).toNat * 5)).off + 3, none⟩ = some (.int .i64 ((rd_T32 l0_0 (ji10)).f0.f2)) ∧ w'.cell? ⟨(ad526.add (((ji10)).toNat * 5)).block, (ad526.add (((ji10)).toNat * 5)).off + 4, none⟩ = some (.slice A529_4 ((rd_T32 l0_0 (ji10)).f1).length c529_4)) (ds := []) #[F_,F_,F_,F_,F_,F_,F_,F_,F_,F_,F_,F_,F_,F_,F_,F_,F_,F_,F_,F_] (by kernel_rfl) rfl rfl ⟨(blk_cell BK527.out 0).trans rfl, (blk_cell BK527.out 1).trans rfl, (blk_cell BK527.out 2).trans rfl, (blk_cell BK527.out 3).trans rfl, (blk_cell BK527.out 4).trans rfl, (blk_cell BK522.out 0).trans rfl, (blk_cell BK522.out 1).trans rfl, (blk_cell BK522.out 2).trans rfl, (blk_cell BK522.out 3).trans rfl, (blk_cell BK522.out 4).trans rfl, ((HB.out.cell (World.block_lt_of_cell? w _ hw529_0)).trans hw529_0), ((HB.out.cell (World.block_lt_of_cell? w _ hw529_1)).trans hw529_1), ((HB.out.cell (World.block_lt_of_cell? w _ hw529_2)).trans hw529_2), ((HB.out.cell (World.block_lt_of_cell? w _ hw529_3)).trans hw529_3), ((HB.out.cell (World.block_lt_of_cell? w _ hw529_4)).trans hw529_4)⟩ (fun hHeld => ?_); refine with_tabW content_Right.tab4 content_Right.bits4 (fun HT_ HW_ => ?_)
           generalize w25.drew = w26 at BK522 BK527 HB HR529_4 hx529_0 hx529_1 hx529_2 hx529_3 hx529_4 hHeld ⊢
           refine take_ (i := 0) (N := some 13) (v := ?_) (a' := ?_) #[T_,F_,F_,F_,F_,F_,F_,F_,F_,F_,F_,F_,F_,F_,F_,F_,F_,F_,F_,F_] rfl rfl (take_ofW HT_.out HW_.out (by kernel_rfl)) (fun _ _ _ h => h) (Or.inl ⟨by rfl, ?_⟩) hHeld ?_ ?_
           rotate_left
           ·
            rintro w' ⟨s0, s1, s2, s3, s4, s5, s6, s7, s8, s9, s10, s11, s12, s13, s14⟩
            go_simp
            with_reducible rfl
           rotate_left
           ·
            exact zp_
           refine one_ (i := 1) (N := some 14) #[T_,T_,F_,F_,F_,F_,F_,F_,F_,F_,F_,F_,F_,F_,F_,F_,F_,F_,F_,F_] rfl rfl (one_of HT_.out (by kernel_rfl)) (by decide) (fun K hK => ?_)
           refine goes_ Try.func49 (by kernel_rfl) rfl #[.agg #[.int .u64 ((rd_T32 l0_0 x8_1).f0.f0.f0), .int .i64 ((rd_T32 l0_0 x8_1).f0.f0.f1), .int .u64 ((rd_T32 l0_0 x8_1).f0.f1), .int .i64 ((rd_T32 l0_0 x8_1).f0.f2), .slice A526_4 ((rd_T32 l0_0 x8_1).f1).length c526_4]] (by rfl) rfl rfl za_ ?_
           with_reducible refine (content_Form.calls ((rd_T32 l0_0 x8_1).f0.f0.f0) ((rd_T32 l0_0 x8_1).f0.f0.f1) ((rd_T32 l0_0 x8_1).f0.f1) ((rd_T32 l0_0 x8_1).f0.f2) _ _ ((rd_T32 l0_0 x8_1).f1) true _ ?side1 ?side2 A7.out).mono ?_
           (case side1 => exact zc_ HR526_4 HB)
           (case side2 => exact HC526_4.out)
           rintro e w27 ⟨rfl, hb⟩
           refine ⟨_, rfl, ?_⟩
           have n0_ := zk_ BK522 hb
           have n1_ := zk_ BK527 hb
           have n2_ := Aside0.mk (below_step zb_ hb)
           clear BK522
           clear BK527
           clear HB
           have BK522 := n0_
           have BK527 := n1_
           have HB := n2_
           clear n0_ n1_ n2_
           (try clear hb)
           (try clear hb2)
           (try clear hk)
           (try clear hi)
           refine hK.out _ _ ⟨(blk_cell BK527.out 0).trans rfl, (blk_cell BK527.out 1).trans rfl, (blk_cell BK527.out 2).trans rfl, (blk_cell BK527.out 3).trans rfl, (blk_cell BK527.out 4).trans rfl, (blk_cell BK522.out 0).trans rfl, (blk_cell BK522.out 1).trans rfl, (blk_cell BK522.out 2).trans rfl, (blk_cell BK522.out 3).trans rfl, (blk_cell BK522.out 4).trans rfl, ((HB.out.cell (World.block_lt_of_cell? w _ hw529_0)).trans hw529_0), ((HB.out.cell (World.block_lt_of_cell? w _ hw529_1)).trans hw529_1), ((HB.out.cell (World.block_lt_of_cell? w _ hw529_2)).trans hw529_2), ((HB.out.cell (World.block_lt_of_cell? w _ hw529_3)).trans hw529_3), ((HB.out.cell (World.block_lt_of_cell? w _ hw529_4)).trans hw529_4)⟩ (fun hHeld => ?_)
           clear hK K
           refine norm_ (a' := ?_) ?_ ?_
           rotate_left
           ·
            show Act.put _ (some 14) _ = _
            simp only [Act.put, List.setIfInBounds_toArray, List.set_cons_zero, List.set_cons_succ, i64_w, i32_w]
            rfl
           refine pure_ (i := 2) (N := some 15) (v := ?_) (a' := ?_) #[T_,T_,T_,F_,F_,F_,F_,F_,F_,F_,F_,F_,F_,F_,F_,F_,F_,F_,F_,F_] rfl rfl (any_of HT_.out (by kernel_rfl)) (fun _ _ _ h => h) (Or.inl ⟨by rfl, ?_⟩) ?_ ?_
           rotate_left
           ·
            intro w'; go_simp; with_reducible rfl
           rotate_left
           ·
            exact zp_
           refine pure_ (i := 3) (N := some 16) (v := ?_) (a' := ?_) #[T_,T_,T_,T_,F_,F_,F_,F_,F_,F_,F_,F_,F_,F_,F_,F_,F_,F_,F_,F_] rfl rfl (any_of HT_.out (by kernel_rfl)) (fun _ _ _ h => h) (Or.inl ⟨by rfl, ?_⟩) ?_ ?_
           rotate_left
           ·
            intro w'; go_simp; with_reducible rfl
           rotate_left
           ·
            exact zp_
           refine pure_ (i := 4) (N := some 17) (v := ?_) (a' := ?_) #[T_,T_,T_,T_,T_,F_,F_,F_,F_,F_,F_,F_,F_,F_,F_,F_,F_,F_,F_,F_] rfl rfl (any_of HT_.out (by kernel_rfl)) (fun _ _ _ h => h) (Or.inl ⟨by rfl, ?_⟩) ?_ ?_
           rotate_left
           ·
            intro w'; go_simp; with_reducible rfl
           rotate_left
           ·
            exact zp_
           refine pure_ (i := 5) (N := some 18) (v := ?_) (a' := ?_) #[T_,T_,T_,T_,T_,T_,F_,F_,F_,F_,F_,F_,F_,F_,F_,F_,F_,F_,F_,F_] rfl rfl (any_of HT_.out (by kernel_rfl)) (fun _ _ _ h => h) (Or.inl ⟨by rfl, ?_⟩) ?_ ?_
           rotate_left
           ·
            intro w'; go_simp; with_reducible rfl
           rotate_left
           ·
            exact zp_
           refine pure_ (i := 6) (N := some 19) (v := ?_) (a' := ?_) #[T_,T_,T_,T_,T_,T_,T_,F_,F_,F_,F_,F_,F_,F_,F_,F_,F_,F_,F_,F_] rfl rfl (any_of HT_.out (by kernel_rfl)) (fun _ _ _ h => h) (Or.inl ⟨by rfl, ?_⟩) ?_ ?_
           rotate_left
           ·
            intro w'; go_simp; with_reducible rfl
           rotate_left
           ·
            exact zp_
           refine pure_ (i := 7) (N := some 20) (v := ?_) (a' := ?_) #[T_,T_,T_,T_,T_,T_,T_,T_,F_,F_,F_,F_,F_,F_,F_,F_,F_,F_,F_,F_] rfl rfl (any_of HT_.out (by kernel_rfl)) (fun _ _ _ h => h) (Or.inl ⟨by rfl, ?_⟩) ?_ ?_
           rotate_left
           ·
            intro w'; go_simp; with_reducible rfl
           rotate_left
           ·
            exact zp_
           refine pure_ (i := 9) (N := some 22) (v := ?_) (a' := ?_) #[T_,T_,T_,T_,T_,T_,T_,T_,F_,T_,F_,F_,F_,F_,F_,F_,F_,F_,F_,F_] rfl rfl (any_of HT_.out (by kernel_rfl)) (fun _ _ _ h => h) (Or.inl ⟨by rfl, ?_⟩) ?_ ?_
           rotate_left
           ·
            intro w'; go_simp; with_reducible rfl
           rotate_left
           ·
            exact zp_
           refine pure_ (i := 10) (N := some 23) (v := ?_) (a' := ?_) #[T_,T_,T_,T_,T_,T_,T_,T_,F_,T_,T_,F_,F_,F_,F_,F_,F_,F_,F_,F_] rfl rfl (any_of HT_.out (by kernel_rfl)) (fun _ _ _ h => h) (Or.inl ⟨by rfl, ?_⟩) ?_ ?_
           rotate_left
           ·
            intro w'; go_simp; with_reducible rfl
           rotate_left
           ·
            exact zp_
           refine pure_ (i := 14) (N := some 27) (v := ?_) (a' := ?_) #[T_,T_,T_,T_,T_,T_,T_,T_,F_,T_,T_,F_,F_,F_,T_,F_,F_,F_,F_,F_] rfl rfl (any_of HT_.out (by kernel_rfl)) (fun _ _ _ h => h) (Or.inl ⟨by rfl, ?_⟩) ?_ ?_
           rotate_left
           ·
            intro w'; go_simp; with_reducible rfl
           rotate_left
           ·
            exact zp_
           refine take_ (i := 8) (N := some 21) (v := ?_) (a' := ?_) #[T_,T_,T_,T_,T_,T_,T_,T_,T_,T_,T_,F_,F_,F_,T_,F_,F_,F_,F_,F_] rfl rfl (take_ofW HT_.out HW_.out (by kernel_rfl)) (fun _ _ _ h => h) (Or.inl ⟨by rfl, ?_⟩) hHeld ?_ ?_
           rotate_left
           ·
            rintro w' ⟨s0, s1, s2, s3, s4, s5, s6, s7, s8, s9, s10, s11, s12, s13, s14⟩
            go_simp
            with_reducible rfl
           rotate_left
           ·
            exact zp_
           refine pure_ (i := 11) (N := some 24) (v := ?_) (a' := ?_) #[T_,T_,T_,T_,T_,T_,T_,T_,T_,T_,T_,T_,F_,F_,T_,F_,F_,F_,F_,F_] rfl rfl (any_of HT_.out (by kernel_rfl)) (fun _ _ _ h => h) (Or.inl ⟨by rfl, ?_⟩) ?_ ?_
           rotate_left
           ·
            intro w'; go_simp; with_reducible rfl
           rotate_left
           ·
            exact zp_
           refine pure_ (i := 12) (N := some 25) (v := ?_) (a' := ?_) #[T_,T_,T_,T_,T_,T_,T_,T_,T_,T_,T_,T_,T_,F_,T_,F_,F_,F_,F_,F_] rfl rfl (any_of HT_.out (by kernel_rfl)) (fun _ _ _ h => h) (Or.inl ⟨by rfl, ?_⟩) ?_ ?_
           rotate_left
           ·
            intro w'; go_simp; with_reducible rfl
           rotate_left
           ·
            exact zp_
           refine take_ (i := 13) (N := some 26) (v := ?_) (a' := ?_) #[T_,T_,T_,T_,T_,T_,T_,T_,T_,T_,T_,T_,T_,T_,T_,F_,F_,F_,F_,F_] rfl rfl (take_ofW HT_.out HW_.out (by kernel_rfl)) (fun _ _ _ h => h) (Or.inl ⟨by rfl, ?_⟩) hHeld ?_ ?_
           rotate_left
           ·
            rintro w' ⟨s0, s1, s2, s3, s4, s5, s6, s7, s8, s9, s10, s11, s12, s13, s14⟩
            go_simp
            with_reducible rfl
           rotate_left
           ·
            exact zp_
           refine take_ (i := 15) (N := some 28) (v := ?_) (a' := ?_) #[T_,T_,T_,T_,T_,T_,T_,T_,T_,T_,T_,T_,T_,T_,T_,T_,F_,F_,F_,F_] rfl rfl (take_ofW HT_.out HW_.out (by kernel_rfl)) (fun _ _ _ h => h) (Or.inl ⟨by rfl, ?_⟩) hHeld ?_ ?_
           rotate_left
           ·
            rintro w' ⟨s0, s1, s2, s3, s4, s5, s6, s7, s8, s9, s10, s11, s12, s13, s14⟩
            go_simp
            with_reducible rfl
           rotate_left
           ·
            exact zp_
           refine one_ (i := 16) (N := some 29) #[T_,T_,T_,T_,T_,T_,T_,T_,T_,T_,T_,T_,T_,T_,T_,T_,T_,F_,F_,F_] rfl rfl (one_of HT_.out (by kernel_rfl)) (by decide) (fun K hK => ?_)
           refine goes_ Try.func42 (by kernel_rfl) rfl #[.agg #[.int .u64 ((rd_T32 l0_0 (ji10)).f0.f0.f0), .int .i64 ((rd_T32 l0_0 (ji10)).f0.f0.f1), .int .u64 ((rd_T32 l0_0 (ji10)).f0.f1), .int .i64 ((rd_T32 l0_0 (ji10)).f0.f2)], .agg #[.int .u64 ((rd_T32 l0_0 x8_1).f0.f0.f0), .int .i64 ((rd_T32 l0_0 x8_1).f0.f0.f1), .int .u64 ((rd_T32 l0_0 x8_1).f0.f1), .int .i64 ((rd_T32 l0_0 x8_1).f0.f2)]] (by rfl) rfl rfl (by (try simp only [List.map_toArray, List.map_cons, List.map_nil]); first | done | (simp only [hji10]; rfl) | rfl | (simp only [List.length_drop, List.length_take]; rfl)) ?_
           with_reducible refine (label_Compare.calls k1 ((rd_T32 l0_0 (ji10)).f0.f0.f0) ((rd_T32 l0_0 (ji10)).f0.f0.f1) ((rd_T32 l0_0 (ji10)).f0.f1) ((rd_T32 l0_0 (ji10)).f0.f2) ((rd_T32 l0_0 x8_1).f0.f0.f0) ((rd_T32 l0_0 x8_1).f0.f0.f1) ((rd_T32 l0_0 x8_1).f0.f1) ((rd_T32 l0_0 x8_1).f0.f2) t530 _ A13.out).mono ?_
           rintro e w28 ⟨rfl, hb⟩
           refine ⟨_, rfl, ?_⟩
           have n0_ := zk_ BK522 hb
           have n1_ := zk_ BK527 hb
           have n2_ := Aside0.mk (below_step zb_ hb)
           clear BK522
           clear BK527
           clear HB
           have BK522 := n0_
           have BK527 := n1_
           have HB := n2_
           clear n0_ n1_ n2_
           (try clear hb)
           (try clear hb2)
           (try clear hk)
           (try clear hi)
           refine hK.out _ _ ⟨(blk_cell BK527.out 0).trans rfl, (blk_cell BK527.out 1).trans rfl, (blk_cell BK527.out 2).trans rfl, (blk_cell BK527.out 3).trans rfl, (blk_cell BK527.out 4).trans rfl, (blk_cell BK522.out 0).trans rfl, (blk_cell BK522.out 1).trans rfl, (blk_cell BK522.out 2).trans rfl, (blk_cell BK522.out 3).trans rfl, (blk_cell BK522.out 4).trans rfl, ((HB.out.cell (World.block_lt_of_cell? w _ hw529_0)).trans hw529_0), ((HB.out.cell (World.block_lt_of_cell? w _ hw529_1)).trans hw529_1), ((HB.out.cell (World.block_lt_of_cell? w _ hw529_2)).trans hw529_2), ((HB.out.cell (World.block_lt_of_cell? w _ hw529_3)).trans hw529_3), ((HB.out.cell (World.block_lt_of_cell? w _ hw529_4)).trans hw529_4)⟩ (fun hHeld => ?_)
           clear hK K
           refine norm_ (a' := ?_) ?_ ?_
           rotate_left
           ·
            show Act.put _ (some 29) _ = _
            simp only [Act.put, List.setIfInBounds_toArray, List.set_cons_zero, List.set_cons_succ, i64_w, i32_w]
            rfl
           refine pure_ (i := 17) (N := some 30) (v := ?_) (a' := ?_) #[T_,T_,T_,T_,T_,T_,T_,T_,T_,T_,T_,T_,T_,T_,T_,T_,T_,T_,F_,F_] rfl rfl (any_of HT_.out (by kernel_rfl)) (fun _ _ _ h => h) (Or.inl ⟨by rfl, ?_⟩) ?_ ?_
           rotate_left
           ·
            intro w'; go_simp; with_reducible rfl
           rotate_left
           ·
            exact zp_
           refine pure_ (i := 18) (N := some 31) (v := ?_) (a' := ?_) #[T_,T_,T_,T_,T_,T_,T_,T_,T_,T_,T_,T_,T_,T_,T_,T_,T_,T_,T_,F_] rfl rfl (any_of HT_.out (by kernel_rfl)) (fun _ _ _ h => h) (Or.inl ⟨by rfl, ?_⟩) ?_ ?_
           rotate_left
           ·
            intro w'; go_simp; with_reducible rfl
           rotate_left
           ·
            exact zp_
           refine pure_ (i := 19) (N := some 32) (v := ?_) (a' := ?_) #[T_,T_,T_,T_,T_,T_,T_,T_,T_,T_,T_,T_,T_,T_,T_,T_,T_,T_,T_,T_] rfl rfl (any_of HT_.out (by kernel_rfl)) (fun _ _ _ h => h) (Or.inl ⟨by rfl, ?_⟩) ?_ ?_
           rotate_left
           ·
            intro w'; go_simp; with_reducible rfl
           rotate_left
           ·
            exact zp_
           refine done_ (done_of HT_.out (by kernel_rfl)) ?_
           (try clear hHeld); (try clear HS0_)
           try go_wp2
           go_roundg k1
           case measure => have := HK1.out; omega
           case rel => exact ⟨(wrap64 (x8_1 + 1)), (by first | rfl | (simp; done) | (simp [*]; done)), H', ⟨by have := HK1.out; omega⟩, ⟨by (with_reducible repeat (first | refine blk_drewN ?_ _ | refine blk_drew ?_ | refine blk_alloc ?_ _)); exact BK522.out⟩, ⟨by repeat (first | (with_reducible first | exact HB.out | apply below_alloc | apply pw_below_drewN | apply below_drew1 | refine below_set ?_ GE522.out | refine below_set ?_ GE527.out) | exact HB.out)⟩⟩
         ·
          rw [if_neg c12] at H
          exact absurd H (by simp)
        ·
         rw [if_neg c11] at H
         exact absurd H (by simp)
       ·
        rw [if_neg c9] at H
        have c9b0 : decide (0 < x8_1) = false := decide_eq_false c9
        clear c9
        have H' := Aside0.mk H
        clear H
        have p526 : 0 ≤ (x8_1 : Int) := of_decide_eq_true zs_
        have q526 : x8_1 < (l0_0.length : Int) := of_decide_eq_true zs_
        obtain ⟨ad526, A526_4, c526_4, e526, hx526_0, hx526_1, hx526_2, hx526_3, hx526_4, hl526_4, hi526_4⟩ := at_T32 HR0_0.out x8_1 p526 q526
        cases e526
        replace hx526_0 := (HB.out.cell (World.block_lt_of_cell? w _ hx526_0)).trans hx526_0
        replace hx526_1 := (HB.out.cell (World.block_lt_of_cell? w _ hx526_1)).trans hx526_1
        replace hx526_2 := (HB.out.cell (World.block_lt_of_cell? w _ hx526_2)).trans hx526_2
        replace hx526_3 := (HB.out.cell (World.block_lt_of_cell? w _ hx526_3)).trans hx526_3
        replace hx526_4 := (HB.out.cell (World.block_lt_of_cell? w _ hx526_4)).trans hx526_4
        have HR526_4 := Aside0.mk hi526_4
        have HC526_4 := Aside0.mk hl526_4
        clear hi526_4 hl526_4
        replace p526 := eq_true p526
        replace q526 := eq_true q526
        try go_wp2_with (first | ((with_reducible refine gate_dst (N := 4) rfl ?_); (try (refine gate_guard (by rfl) ?_; dsimp only)); refine box_event ?hg (N := 4) ?hd (cs := #[.int .u64 0, .int .i64 0, .int .u64 0, .int .i64 0, .slice none 0 0]) (t := 32) ?hr ?_; (case hd => rfl); (case hg => rfl); (case hr => first | (go_simp; done) | (go_simp; rfl)); intro gb527 hg w29 hbox hb; have n0_ := zk_ BK522 hb; have n1_ := Aside0.mk (below_step zb_ hb); have n2_ := Aside0.mk (hbox); have n3_ := Aside0.mk ((by rw [hg]; exact (below_size zb_) : w.heap.size ≤ gb527)); have n4_ := Aside0.mk ((by rw [hg]; exact (below_size zb_) : w.heap.size ≤ gb527)); have n5_ := Aside0.mk ((by rw [hg]; exact Nat.ne_of_lt (blk_lt (g := gb522) (o := .cells #[.slice (some ad526) l0_0.length c0_0, .slice A0_1 l0_1.length c0_1, .int .i64 a0_2, .int .u64 a0_3, .int .i64 a0_4] 53 (0, 0)) (by (with_reducible repeat (first | refine blk_drewN ?_ _ | refine blk_drew ?_ | refine blk_alloc ?_ _)); exact BK522.out)) : gb522 ≠ gb527)); have n6_ := Aside0.mk ((by rw [hg]; exact Nat.ne_of_gt (blk_lt (g := gb522) (o := .cells #[.slice (some ad526) l0_0.length c0_0, .slice A0_1 l0_1.length c0_1, .int .i64 a0_2, .int .u64 a0_3, .int .i64 a0_4] 53 (0, 0)) (by (with_reducible repeat (first | refine blk_drewN ?_ _ | refine blk_drew ?_ | refine blk_alloc ?_ _)); exact BK522.out)) : gb527 ≠ gb522)); clear BK522; clear HB; have BK522 := n0_; have HB := n1_; have BK527 := n2_; have GW527 := n3_; have GE527 := n4_; have NB522_527 := n5_; have NB527_522 := n6_; clear n0_ n1_ n2_ n3_ n4_ n5_ n6_; clear hb hbox hg; have hnb30 := NB527_522.out; have hnc30 := NB522_527.out; have hcz31_0 : w29.cell? ⟨gb527, 0, none⟩ = some (.int .u64 0) := (blk_cell BK527.out 0).trans rfl; have hcz31_1 : w29.cell? ⟨gb527, 1, none⟩ = some (.int .i64 0) := (blk_cell BK527.out 1).trans rfl; have hcz31_2 : w29.cell? ⟨gb527, 2, none⟩ = some (.int .u64 0) := (blk_cell BK527.out 2).trans rfl; have hcz31_3 : w29.cell? ⟨gb527, 3, none⟩ = some (.int .i64 0) := (blk_cell BK527.out 3).trans rfl; have hcz31_4 : w29.cell? ⟨gb527, 4, none⟩ = some (.slice none 0 0) := (blk_cell BK527.out 4).trans rfl; have hfz31_0 := blk_frozen BK527.out 0; have hfz31_1 := blk_frozen BK527.out 1; have hfz31_2 := blk_frozen BK527.out 2; have hfz31_3 := blk_frozen BK527.out 3; have hfz31_4 := blk_frozen BK527.out 4))
        have n0_ : Aside0 ((((((w29.setCell ⟨gb527, 0, none⟩ (.int .u64 ((rd_T32 l0_0 x8_1).f0.f0.f0))).setCell ⟨gb527, 1, none⟩ (.int .i64 ((rd_T32 l0_0 x8_1).f0.f0.f1))).setCell ⟨gb527, 2, none⟩ (.int .u64 ((rd_T32 l0_0 x8_1).f0.f1))).setCell ⟨gb527, 3, none⟩ (.int .i64 ((rd_T32 l0_0 x8_1).f0.f2))).setCell ⟨gb527, 4, none⟩ (.slice A526_4 ((rd_T32 l0_0 x8_1).f1).length c526_4)).heap[gb522]? = some (.cells #[.slice (some ad526) l0_0.length c0_0, .slice A0_1 l0_1.length c0_1, .int .i64 a0_2, .int .u64 a0_3, .int .i64 a0_4] 53 (0, 0))) := ⟨by (with_reducible repeat (first | refine blk_drewN ?_ _ | refine blk_drew ?_ | refine blk_alloc ?_ _)); refine blk_far ?_ NB522_527.out _; (with_reducible repeat (first | refine blk_drewN ?_ _ | refine blk_drew ?_ | refine blk_alloc ?_ _)); refine blk_far ?_ NB522_527.out _; (with_reducible repeat (first | refine blk_drewN ?_ _ | refine blk_drew ?_ | refine blk_alloc ?_ _)); refine blk_far ?_ NB522_527.out _; (with_reducible repeat (first | refine blk_drewN ?_ _ | refine blk_drew ?_ | refine blk_alloc ?_ _)); refine blk_far ?_ NB522_527.out _; (with_reducible repeat (first | refine blk_drewN ?_ _ | refine blk_drew ?_ | refine blk_alloc ?_ _)); refine blk_far ?_ NB522_527.out _; (with_reducible repeat (first | refine blk_drewN ?_ _ | refine blk_drew ?_ | refine blk_alloc ?_ _)); exact BK522.out⟩
        have n1_ : Aside0 ((((((w29.setCell ⟨gb527, 0, none⟩ (.int .u64 ((rd_T32 l0_0 x8_1).f0.f0.f0))).setCell ⟨gb527, 1, none⟩ (.int .i64 ((rd_T32 l0_0 x8_1).f0.f0.f1))).setCell ⟨gb527, 2, none⟩ (.int .u64 ((rd_T32 l0_0 x8_1).f0.f1))).setCell ⟨gb527, 3, none⟩ (.int .i64 ((rd_T32 l0_0 x8_1).f0.f2))).setCell ⟨gb527, 4, none⟩ (.slice A526_4 ((rd_T32 l0_0 x8_1).f1).length c526_4)).heap[gb527]? = some (.cells #[.int .u64 ((rd_T32 l0_0 x8_1).f0.f0.f0), .int .i64 ((rd_T32 l0_0 x8_1).f0.f0.f1), .int .u64 ((rd_T32 l0_0 x8_1).f0.f1), .int .i64 ((rd_T32 l0_0 x8_1).f0.f2), .slice A526_4 ((rd_T32 l0_0 x8_1).f1).length c526_4] 32 (0, 0))) := ⟨by (with_reducible repeat (first | refine blk_drewN ?_ _ | refine blk_drew ?_ | refine blk_alloc ?_ _)); refine blk_put (cs := #[.int .u64 ((rd_T32 l0_0 x8_1).f0.f0.f0), .int .i64 ((rd_T32 l0_0 x8_1).f0.f0.f1), .int .u64 ((rd_T32 l0_0 x8_1).f0.f1), .int .i64 ((rd_T32 l0_0 x8_1).f0.f2), .slice none 0 0]) ?_ 4 _ rfl; (with_reducible repeat (first | refine blk_drewN ?_ _ | refine blk_drew ?_ | refine blk_alloc ?_ _)); refine blk_put (cs := #[.int .u64 ((rd_T32 l0_0 x8_1).f0.f0.f0), .int .i64 ((rd_T32 l0_0 x8_1).f0.f0.f1), .int .u64 ((rd_T32 l0_0 x8_1).f0.f1), .int .i64 0, .slice none 0 0]) ?_ 3 _ rfl; (with_reducible repeat (first | refine blk_drewN ?_ _ | refine blk_drew ?_ | refine blk_alloc ?_ _)); refine blk_put (cs := #[.int .u64 ((rd_T32 l0_0 x8_1).f0.f0.f0), .int .i64 ((rd_T32 l0_0 x8_1).f0.f0.f1), .int .u64 0, .int .i64 0, .slice none 0 0]) ?_ 2 _ rfl; (with_reducible repeat (first | refine blk_drewN ?_ _ | refine blk_drew ?_ | refine blk_alloc ?_ _)); refine blk_put (cs := #[.int .u64 ((rd_T32 l0_0 x8_1).f0.f0.f0), .int .i64 0, .int .u64 0, .int .i64 0, .slice none 0 0]) ?_ 1 _ rfl; (with_reducible repeat (first | refine blk_drewN ?_ _ | refine blk_drew ?_ | refine blk_alloc ?_ _)); refine blk_put (cs := #[.int .u64 0, .int .i64 0, .int .u64 0, .int .i64 0, .slice none 0 0]) ?_ 0 _ rfl; (with_reducible repeat (first | refine blk_drewN ?_ _ | refine blk_drew ?_ | refine blk_alloc ?_ _)); exact BK527.out⟩
        have n2_ : Aside0 (Below w.heap.size w (((((w29.setCell ⟨gb527, 0, none⟩ (.int .u64 ((rd_T32 l0_0 x8_1).f0.f0.f0))).setCell ⟨gb527, 1, none⟩ (.int .i64 ((rd_T32 l0_0 x8_1).f0.f0.f1))).setCell ⟨gb527, 2, none⟩ (.int .u64 ((rd_T32 l0_0 x8_1).f0.f1))).setCell ⟨gb527, 3, none⟩ (.int .i64 ((rd_T32 l0_0 x8_1).f0.f2))).setCell ⟨gb527, 4, none⟩ (.slice A526_4 ((rd_T32 l0_0 x8_1).f1).length c526_4))) := ⟨by repeat (first | (with_reducible first | exact HB.out | apply below_alloc | apply pw_below_drewN | apply below_drew1 | refine below_set ?_ GE522.out | refine below_set ?_ GE527.out) | exact HB.out)⟩
        (try clear BK522)
        (try clear BK527)
        (try clear HB)
        generalize (((((w29.setCell ⟨gb527, 0, none⟩ (.int .u64 ((rd_T32 l0_0 x8_1).f0.f0.f0))).setCell ⟨gb527, 1, none⟩ (.int .i64 ((rd_T32 l0_0 x8_1).f0.f0.f1))).setCell ⟨gb527, 2, none⟩ (.int .u64 ((rd_T32 l0_0 x8_1).f0.f1))).setCell ⟨gb527, 3, none⟩ (.int .i64 ((rd_T32 l0_0 x8_1).f0.f2))).setCell ⟨gb527, 4, none⟩ (.slice A526_4 ((rd_T32 l0_0 x8_1).f1).length c526_4)) = w32 at n0_ n1_ n2_ ⊢
        have BK522 := n0_
        have BK527 := n1_
        have HB := n2_
        clear n0_ n1_ n2_
        have n0_ := Aside0.mk (blk_drew BK522.out)
        have n1_ := Aside0.mk (blk_drew BK527.out)
        have n2_ := Aside0.mk (below_drew1 HB.out)
        clear BK522
        clear BK527
        clear HB
        have BK522 := n0_
        have BK527 := n1_
        have HB := n2_
        clear n0_ n1_ n2_
        refine start_ (n := 20) (S := fun w' => w'.cell? ⟨gb527, 0, none⟩ = some (.int .u64 ((rd_T32 l0_0 x8_1).f0.f0.f0)) ∧ w'.cell? ⟨gb527, 1, none⟩ = some (.int .i64 ((rd_T32 l0_0 x8_1).f0.f0.f1)) ∧ w'.cell? ⟨gb527, 2, none⟩ = some (.int .u64 ((rd_T32 l0_0 x8_1).f0.f1)) ∧ w'.cell? ⟨gb527, 3, none⟩ = some (.int .i64 ((rd_T32 l0_0 x8_1).f0.f2)) ∧ w'.cell? ⟨gb527, 4, none⟩ = some (.slice A526_4 ((rd_T32 l0_0 x8_1).f1).length c526_4)) (ds := []) #[F_,F_,F_,F_,F_,F_,F_,F_,F_,F_,F_,F_,F_,F_,F_,F_,F_,F_,F_,F_] (by kernel_rfl) rfl rfl ⟨(blk_cell BK527.out 0).trans rfl, (blk_cell BK527.out 1).trans rfl, (blk_cell BK527.out 2).trans rfl, (blk_cell BK527.out 3).trans rfl, (blk_cell BK527.out 4).trans rfl⟩ (fun hHeld => ?_); refine with_tabW content_Right.tab4 content_Right.bits4 (fun HT_ HW_ => ?_)
        generalize w32.drew = w33 at BK522 BK527 HB hHeld ⊢
        refine take_ (i := 0) (N := some 13) (v := ?_) (a' := ?_) #[T_,F_,F_,F_,F_,F_,F_,F_,F_,F_,F_,F_,F_,F_,F_,F_,F_,F_,F_,F_] rfl rfl (take_ofW HT_.out HW_.out (by kernel_rfl)) (fun _ _ _ h => h) (Or.inl ⟨by rfl, ?_⟩) hHeld ?_ ?_
        rotate_left
        ·
         rintro w' ⟨s0, s1, s2, s3, s4⟩
         go_simp
         with_reducible rfl
        rotate_left
        ·
         exact zp_
        refine one_ (i := 1) (N := some 14) #[T_,T_,F_,F_,F_,F_,F_,F_,F_,F_,F_,F_,F_,F_,F_,F_,F_,F_,F_,F_] rfl rfl (one_of HT_.out (by kernel_rfl)) (by decide) (fun K hK => ?_)
        refine goes_ Try.func49 (by kernel_rfl) rfl #[.agg #[.int .u64 ((rd_T32 l0_0 x8_1).f0.f0.f0), .int .i64 ((rd_T32 l0_0 x8_1).f0.f0.f1), .int .u64 ((rd_T32 l0_0 x8_1).f0.f1), .int .i64 ((rd_T32 l0_0 x8_1).f0.f2), .slice A526_4 ((rd_T32 l0_0 x8_1).f1).length c526_4]] (by rfl) rfl rfl za_ ?_
        with_reducible refine (content_Form.calls ((rd_T32 l0_0 x8_1).f0.f0.f0) ((rd_T32 l0_0 x8_1).f0.f0.f1) ((rd_T32 l0_0 x8_1).f0.f1) ((rd_T32 l0_0 x8_1).f0.f2) _ _ ((rd_T32 l0_0 x8_1).f1) true _ ?side1 ?side2 A7.out).mono ?_
        (case side1 => exact zc_ HR526_4 HB)
        (case side2 => exact HC526_4.out)
        rintro e w34 ⟨rfl, hb⟩
        refine ⟨_, rfl, ?_⟩
        have n0_ := zk_ BK522 hb
        have n1_ := zk_ BK527 hb
        have n2_ := Aside0.mk (below_step zb_ hb)
        clear BK522
        clear BK527
        clear HB
        have BK522 := n0_
        have BK527 := n1_
        have HB := n2_
        clear n0_ n1_ n2_
        (try clear hb)
        (try clear hb2)
        (try clear hk)
        (try clear hi)
        refine hK.out _ _ ⟨(blk_cell BK527.out 0).trans rfl, (blk_cell BK527.out 1).trans rfl, (blk_cell BK527.out 2).trans rfl, (blk_cell BK527.out 3).trans rfl, (blk_cell BK527.out 4).trans rfl⟩ (fun hHeld => ?_)
        clear hK K
        refine norm_ (a' := ?_) ?_ ?_
        rotate_left
        ·
         show Act.put _ (some 14) _ = _
         simp only [Act.put, List.setIfInBounds_toArray, List.set_cons_zero, List.set_cons_succ, i64_w, i32_w]
         rfl
        refine pure_ (i := 2) (N := some 15) (v := ?_) (a' := ?_) #[T_,T_,T_,F_,F_,F_,F_,F_,F_,F_,F_,F_,F_,F_,F_,F_,F_,F_,F_,F_] rfl rfl (any_of HT_.out (by kernel_rfl)) (fun _ _ _ h => h) (Or.inl ⟨by rfl, ?_⟩) ?_ ?_
        rotate_left
        ·
         intro w'; go_simp; with_reducible rfl
        rotate_left
        ·
         exact zp_
        refine pure_ (i := 3) (N := some 16) (v := ?_) (a' := ?_) #[T_,T_,T_,T_,F_,F_,F_,F_,F_,F_,F_,F_,F_,F_,F_,F_,F_,F_,F_,F_] rfl rfl (any_of HT_.out (by kernel_rfl)) (fun _ _ _ h => h) (Or.inl ⟨by rfl, ?_⟩) ?_ ?_
        rotate_left
        ·
         intro w'; go_simp; with_reducible rfl
        rotate_left
        ·
         exact zp_
        refine pure_ (i := 4) (N := some 17) (v := ?_) (a' := ?_) #[T_,T_,T_,T_,T_,F_,F_,F_,F_,F_,F_,F_,F_,F_,F_,F_,F_,F_,F_,F_] rfl rfl (any_of HT_.out (by kernel_rfl)) (fun _ _ _ h => h) (Or.inl ⟨by rfl, ?_⟩) ?_ ?_
        rotate_left
        ·
         intro w'; go_simp; with_reducible rfl
        rotate_left
        ·
         exact zp_
        refine pure_ (i := 5) (N := some 18) (v := ?_) (a' := ?_) #[T_,T_,T_,T_,T_,T_,F_,F_,F_,F_,F_,F_,F_,F_,F_,F_,F_,F_,F_,F_] rfl rfl (any_of HT_.out (by kernel_rfl)) (fun _ _ _ h => h) (Or.inl ⟨by rfl, ?_⟩) ?_ ?_
        rotate_left
        ·
         intro w'; go_simp; with_reducible rfl
        rotate_left
        ·
         exact zp_
        refine pure_ (i := 6) (N := some 19) (v := ?_) (a' := ?_) #[T_,T_,T_,T_,T_,T_,T_,F_,F_,F_,F_,F_,F_,F_,F_,F_,F_,F_,F_,F_] rfl rfl (any_of HT_.out (by kernel_rfl)) (fun _ _ _ h => h) (Or.inl ⟨by rfl, ?_⟩) ?_ ?_
        rotate_left
        ·
         intro w'; go_simp; with_reducible rfl
        rotate_left
        ·
         exact zp_
        refine pure_ (i := 7) (N := some 20) (v := undef) (a' := ?_) #[T_,T_,T_,T_,T_,T_,T_,T_,F_,F_,F_,F_,F_,F_,F_,F_,F_,F_,F_,F_] rfl rfl (any_of HT_.out (by kernel_rfl)) (fun _ _ _ h => h) (Or.inr ⟨by rfl, rfl⟩) ?_ ?_
        rotate_left
        ·
         exact zp_
        refine pure_ (i := 8) (N := some 21) (v := undef) (a' := ?_) #[T_,T_,T_,T_,T_,T_,T_,T_,T_,F_,F_,F_,F_,F_,F_,F_,F_,F_,F_,F_] rfl rfl (any_of HT_.out (by kernel_rfl)) (fun _ _ _ h => h) (Or.inr ⟨by rfl, rfl⟩) ?_ ?_
        rotate_left
        ·
         exact zp_
        refine pure_ (i := 9) (N := some 22) (v := undef) (a' := ?_) #[T_,T_,T_,T_,T_,T_,T_,T_,T_,T_,F_,F_,F_,F_,F_,F_,F_,F_,F_,F_] rfl rfl (any_of HT_.out (by kernel_rfl)) (fun _ _ _ h => h) (Or.inr ⟨by rfl, rfl⟩) ?_ ?_
        rotate_left
        ·
         exact zp_
        refine pure_ (i := 10) (N := some 23) (v := undef) (a' := ?_) #[T_,T_,T_,T_,T_,T_,T_,T_,T_,T_,T_,F_,F_,F_,F_,F_,F_,F_,F_,F_] rfl rfl (any_of HT_.out (by kernel_rfl)) (fun _ _ _ h => h) (Or.inr ⟨by rfl, rfl⟩) ?_ ?_
        rotate_left
        ·
         exact zp_
        refine pure_ (i := 11) (N := some 24) (v := undef) (a' := ?_) #[T_,T_,T_,T_,T_,T_,T_,T_,T_,T_,T_,T_,F_,F_,F_,F_,F_,F_,F_,F_] rfl rfl (any_of HT_.out (by kernel_rfl)) (fun _ _ _ h => h) (Or.inr ⟨by rfl, rfl⟩) ?_ ?_
        rotate_left
        ·
         exact zp_
        refine pure_ (i := 12) (N := some 25) (v := undef) (a' := ?_) #[T_,T_,T_,T_,T_,T_,T_,T_,T_,T_,T_,T_,T_,F_,F_,F_,F_,F_,F_,F_] rfl rfl (any_of HT_.out (by kernel_rfl)) (fun _ _ _ h => h) (Or.inr ⟨by rfl, rfl⟩) ?_ ?_
        rotate_left
        ·
         exact zp_
        refine pure_ (i := 13) (N := some 26) (v := undef) (a' := ?_) #[T_,T_,T_,T_,T_,T_,T_,T_,T_,T_,T_,T_,T_,T_,F_,F_,F_,F_,F_,F_] rfl rfl (any_of HT_.out (by kernel_rfl)) (fun _ _ _ h => h) (Or.inr ⟨by rfl, rfl⟩) ?_ ?_
        rotate_left
        ·
         exact zp_
        refine pure_ (i := 14) (N := some 27) (v := undef) (a' := ?_) #[T_,T_,T_,T_,T_,T_,T_,T_,T_,T_,T_,T_,T_,T_,T_,F_,F_,F_,F_,F_] rfl rfl (any_of HT_.out (by kernel_rfl)) (fun _ _ _ h => h) (Or.inr ⟨by rfl, rfl⟩) ?_ ?_
        rotate_left
        ·
         exact zp_
        refine pure_ (i := 15) (N := some 28) (v := undef) (a' := ?_) #[T_,T_,T_,T_,T_,T_,T_,T_,T_,T_,T_,T_,T_,T_,T_,T_,F_,F_,F_,F_] rfl rfl (any_of HT_.out (by kernel_rfl)) (fun _ _ _ h => h) (Or.inr ⟨by rfl, rfl⟩) ?_ ?_
        rotate_left
        ·
         exact zp_
        refine pure_ (i := 16) (N := some 29) (v := undef) (a' := ?_) #[T_,T_,T_,T_,T_,T_,T_,T_,T_,T_,T_,T_,T_,T_,T_,T_,T_,F_,F_,F_] rfl rfl (any_of HT_.out (by kernel_rfl)) (fun _ _ _ h => h) (Or.inr ⟨by rfl, rfl⟩) ?_ ?_
        rotate_left
        ·
         exact zp_
        refine pure_ (i := 17) (N := some 30) (v := undef) (a' := ?_) #[T_,T_,T_,T_,T_,T_,T_,T_,T_,T_,T_,T_,T_,T_,T_,T_,T_,T_,F_,F_] rfl rfl (any_of HT_.out (by kernel_rfl)) (fun _ _ _ h => h) (Or.inr ⟨by rfl, rfl⟩) ?_ ?_
        rotate_left
        ·
         exact zp_
        refine pure_ (i := 18) (N := some 31) (v := ?_) (a' := ?_) #[T_,T_,T_,T_,T_,T_,T_,T_,T_,T_,T_,T_,T_,T_,T_,T_,T_,T_,T_,F_] rfl rfl (any_of HT_.out (by kernel_rfl)) (fun _ _ _ h => h) (Or.inl ⟨by rfl, ?_⟩) ?_ ?_
        rotate_left
        ·
         intro w'; go_simp; with_reducible rfl
        rotate_left
        ·
         exact zp_
        refine pure_ (i := 19) (N := some 32) (v := ?_) (a' := ?_) #[T_,T_,T_,T_,T_,T_,T_,T_,T_,T_,T_,T_,T_,T_,T_,T_,T_,T_,T_,T_] rfl rfl (any_of HT_.out (by kernel_rfl)) (fun _ _ _ h => h) (Or.inl ⟨by rfl, ?_⟩) ?_ ?_
        rotate_left
        ·
         intro w'; go_simp; with_reducible rfl
        rotate_left
        ·
         exact zp_
        refine done_ (done_of HT_.out (by kernel_rfl)) ?_
        (try clear hHeld); (try clear HS0_)
        try go_wp2
        go_roundg k1
        case measure => have := HK1.out; omega
        case rel => exact ⟨(wrap64 (x8_1 + 1)), (by first | rfl | (simp; done) | (simp [*]; done)), H', ⟨by have := HK1.out; omega⟩, ⟨by (with_reducible repeat (first | refine blk_drewN ?_ _ | refine blk_drew ?_ | refine blk_alloc ?_ _)); exact BK522.out⟩, ⟨by repeat (first | (with_reducible first | exact HB.out | apply below_alloc | apply pw_below_drewN | apply below_drew1 | refine below_set ?_ GE522.out | refine below_set ?_ GE527.out) | exact HB.out)⟩⟩
      ·
       replace c8 := Bool.eq_false_iff.mpr c8
       subst c8
       have H1 : (some false) = some r := by rw [if_neg (show ¬ (false = true) by decide)] at H; exact H
       clear H
       have H := H1
       clear H1
       obtain rfl := Option.some.inj H
       have p526 : 0 ≤ (x8_1 : Int) := of_decide_eq_true zs_
       have q526 : x8_1 < (l0_0.length : Int) := of_decide_eq_true zs_
       obtain ⟨ad526, A526_4, c526_4, e526, hx526_0, hx526_1, hx526_2, hx526_3, hx526_4, hl526_4, hi526_4⟩ := at_T32 HR0_0.out x8_1 p526 q526
       cases e526
       replace hx526_0 := (HB.out.cell (World.block_lt_of_cell? w _ hx526_0)).trans hx526_0
       replace hx526_1 := (HB.out.cell (World.block_lt_of_cell? w _ hx526_1)).trans hx526_1
       replace hx526_2 := (HB.out.cell (World.block_lt_of_cell? w _ hx526_2)).trans hx526_2
       replace hx526_3 := (HB.out.cell (World.block_lt_of_cell? w _ hx526_3)).trans hx526_3
       replace hx526_4 := (HB.out.cell (World.block_lt_of_cell? w _ hx526_4)).trans hx526_4
       have HR526_4 := Aside0.mk hi526_4
       have HC526_4 := Aside0.mk hl526_4
       clear hi526_4 hl526_4
       replace p526 := eq_true p526
       replace q526 := eq_true q526
       try go_wp2_with (first | ((with_reducible refine gate_dst (N := 4) rfl ?_); (try (refine gate_guard (by rfl) ?_; dsimp only)); refine box_event ?hg (N := 4) ?hd (cs := #[.int .u64 0, .int .i64 0, .int .u64 0, .int .i64 0, .slice none 0 0]) (t := 32) ?hr ?_; (case hd => rfl); (case hg => rfl); (case hr => first | (go_simp; done) | (go_simp; rfl)); intro gb527 hg w35 hbox hb; have n0_ := zk_ BK522 hb; have n1_ := Aside0.mk (below_step zb_ hb); have n2_ := Aside0.mk (hbox); have n3_ := Aside0.mk ((by rw [hg]; exact (below_size zb_) : w.heap.size ≤ gb527)); have n4_ := Aside0.mk ((by rw [hg]; exact (below_size zb_) : w.heap.size ≤ gb527)); have n5_ := Aside0.mk ((by rw [hg]; exact Nat.ne_of_lt (blk_lt (g := gb522) (o := .cells #[.slice (some ad526) l0_0.length c0_0, .slice A0_1 l0_1.length c0_1, .int .i64 a0_2, .int .u64 a0_3, .int .i64 a0_4] 53 (0, 0)) (by (with_reducible repeat (first | refine blk_drewN ?_ _ | refine blk_drew ?_ | refine blk_alloc ?_ _)); exact BK522.out)) : gb522 ≠ gb527)); have n6_ := Aside0.mk ((by rw [hg]; exact Nat.ne_of_gt (blk_lt (g := gb522) (o := .cells #[.slice (some ad526) l0_0.length c0_0, .slice A0_1 l0_1.length c0_1, .int .i64 a0_2, .int .u64 a0_3, .int .i64 a0_4] 53 (0, 0)) (by (with_reducible repeat (first | refine blk_drewN ?_ _ | refine blk_drew ?_ | refine blk_alloc ?_ _)); exact BK522.out)) : gb527 ≠ gb522)); clear BK522; clear HB; have BK522 := n0_; have HB := n1_; have BK527 := n2_; have GW527 := n3_; have GE527 := n4_; have NB522_527 := n5_; have NB527_522 := n6_; clear n0_ n1_ n2_ n3_ n4_ n5_ n6_; clear hb hbox hg; have hnb36 := NB527_522.out; have hnc36 := NB522_527.out; have hcz37_0 : w35.cell? ⟨gb527, 0, none⟩ = some (.int .u64 0) := (blk_cell BK527.out 0).trans rfl; have hcz37_1 : w35.cell? ⟨gb527, 1, none⟩ = some (.int .i64 0) := (blk_cell BK527.out 1).trans rfl; have hcz37_2 : w35.cell? ⟨gb527, 2, none⟩ = some (.int .u64 0) := (blk_cell BK527.out 2).trans rfl; have hcz37_3 : w35.cell? ⟨gb527, 3, none⟩ = some (.int .i64 0) := (blk_cell BK527.out 3).trans rfl; have hcz37_4 : w35.cell? ⟨gb527, 4, none⟩ = some (.slice none 0 0) := (blk_cell BK527.out 4).trans rfl; have hfz37_0 := blk_frozen BK527.out 0; have hfz37_1 := blk_frozen BK527.out 1; have hfz37_2 := blk_frozen BK527.out 2; have hfz37_3 := blk_frozen BK527.out 3; have hfz37_4 := blk_frozen BK527.out 4))
       have n0_ : Aside0 ((((((w35.setCell ⟨gb527, 0, none⟩ (.int .u64 ((rd_T32 l0_0 x8_1).f0.f0.f0))).setCell ⟨gb527, 1, none⟩ (.int .i64 ((rd_T32 l0_0 x8_1).f0.f0.f1))).setCell ⟨gb527, 2, none⟩ (.int .u64 ((rd_T32 l0_0 x8_1).f0.f1))).setCell ⟨gb527, 3, none⟩ (.int .i64 ((rd_T32 l0_0 x8_1).f0.f2))).setCell ⟨gb527, 4, none⟩ (.slice A526_4 ((rd_T32 l0_0 x8_1).f1).length c526_4)).heap[gb522]? = some (.cells #[.slice (some ad526) l0_0.length c0_0, .slice A0_1 l0_1.length c0_1, .int .i64 a0_2, .int .u64 a0_3, .int .i64 a0_4] 53 (0, 0))) := ⟨by (with_reducible repeat (first | refine blk_drewN ?_ _ | refine blk_drew ?_ | refine blk_alloc ?_ _)); refine blk_far ?_ NB522_527.out _; (with_reducible repeat (first | refine blk_drewN ?_ _ | refine blk_drew ?_ | refine blk_alloc ?_ _)); refine blk_far ?_ NB522_527.out _; (with_reducible repeat (first | refine blk_drewN ?_ _ | refine blk_drew ?_ | refine blk_alloc ?_ _)); refine blk_far ?_ NB522_527.out _; (with_reducible repeat (first | refine blk_drewN ?_ _ | refine blk_drew ?_ | refine blk_alloc ?_ _)); refine blk_far ?_ NB522_527.out _; (with_reducible repeat (first | refine blk_drewN ?_ _ | refine blk_drew ?_ | refine blk_alloc ?_ _)); refine blk_far ?_ NB522_527.out _; (with_reducible repeat (first | refine blk_drewN ?_ _ | refine blk_drew ?_ | refine blk_alloc ?_ _)); exact BK522.out⟩
       have n1_ : Aside0 ((((((w35.setCell ⟨gb527, 0, none⟩ (.int .u64 ((rd_T32 l0_0 x8_1).f0.f0.f0))).setCell ⟨gb527, 1, none⟩ (.int .i64 ((rd_T32 l0_0 x8_1).f0.f0.f1))).setCell ⟨gb527, 2, none⟩ (.int .u64 ((rd_T32 l0_0 x8_1).f0.f1))).setCell ⟨gb527, 3, none⟩ (.int .i64 ((rd_T32 l0_0 x8_1).f0.f2))).setCell ⟨gb527, 4, none⟩ (.slice A526_4 ((rd_T32 l0_0 x8_1).f1).length c526_4)).heap[gb527]? = some (.cells #[.int .u64 ((rd_T32 l0_0 x8_1).f0.f0.f0), .int .i64 ((rd_T32 l0_0 x8_1).f0.f0.f1), .int .u64 ((rd_T32 l0_0 x8_1).f0.f1), .int .i64 ((rd_T32 l0_0 x8_1).f0.f2), .slice A526_4 ((rd_T32 l0_0 x8_1).f1).length c526_4] 32 (0, 0))) := ⟨by (with_reducible repeat (first | refine blk_drewN ?_ _ | refine blk_drew ?_ | refine blk_alloc ?_ _)); refine blk_put (cs := #[.int .u64 ((rd_T32 l0_0 x8_1).f0.f0.f0), .int .i64 ((rd_T32 l0_0 x8_1).f0.f0.f1), .int .u64 ((rd_T32 l0_0 x8_1).f0.f1), .int .i64 ((rd_T32 l0_0 x8_1).f0.f2), .slice none 0 0]) ?_ 4 _ rfl; (with_reducible repeat (first | refine blk_drewN ?_ _ | refine blk_drew ?_ | refine blk_alloc ?_ _)); refine blk_put (cs := #[.int .u64 ((rd_T32 l0_0 x8_1).f0.f0.f0), .int .i64 ((rd_T32 l0_0 x8_1).f0.f0.f1), .int .u64 ((rd_T32 l0_0 x8_1).f0.f1), .int .i64 0, .slice none 0 0]) ?_ 3 _ rfl; (with_reducible repeat (first | refine blk_drewN ?_ _ | refine blk_drew ?_ | refine blk_alloc ?_ _)); refine blk_put (cs := #[.int .u64 ((rd_T32 l0_0 x8_1).f0.f0.f0), .int .i64 ((rd_T32 l0_0 x8_1).f0.f0.f1), .int .u64 0, .int .i64 0, .slice none 0 0]) ?_ 2 _ rfl; (with_reducible repeat (first | refine blk_drewN ?_ _ | refine blk_drew ?_ | refine blk_alloc ?_ _)); refine blk_put (cs := #[.int .u64 ((rd_T32 l0_0 x8_1).f0.f0.f0), .int .i64 0, .int .u64 0, .int .i64 0, .slice none 0 0]) ?_ 1 _ rfl; (with_reducible repeat (first | refine blk_drewN ?_ _ | refine blk_drew ?_ | refine blk_alloc ?_ _)); refine blk_put (cs := #[.int .u64 0, .int .i64 0, .int .u64 0, .int .i64 0, .slice none 0 0]) ?_ 0 _ rfl; (with_reducible repeat (first | refine blk_drewN ?_ _ | refine blk_drew ?_ | refine blk_alloc ?_ _)); exact BK527.out⟩
       have n2_ : Aside0 (Below w.heap.size w (((((w35.setCell ⟨gb527, 0, none⟩ (.int .u64 ((rd_T32 l0_0 x8_1).f0.f0.f0))).setCell ⟨gb527, 1, none⟩ (.int .i64 ((rd_T32 l0_0 x8_1).f0.f0.f1))).setCell ⟨gb527, 2, none⟩ (.int .u64 ((rd_T32 l0_0 x8_1).f0.f1))).setCell ⟨gb527, 3, none⟩ (.int .i64 ((rd_T32 l0_0 x8_1).f0.f2))).setCell ⟨gb527, 4, none⟩ (.slice A526_4 ((rd_T32 l0_0 x8_1).f1).length c526_4))) := ⟨by repeat (first | (with_reducible first | exact HB.out | apply below_alloc | apply pw_below_drewN | apply below_drew1 | refine below_set ?_ GE522.out | refine below_set ?_ GE527.out) | exact HB.out)⟩
       (try clear BK522)
       (try clear BK527)
       (try clear HB)
       generalize (((((w35.setCell ⟨gb527, 0, none⟩ (.int .u64 ((rd_T32 l0_0 x8_1).f0.f0.f0))).setCell ⟨gb527, 1, none⟩ (.int .i64 ((rd_T32 l0_0 x8_1).f0.f0.f1))).setCell ⟨gb527, 2, none⟩ (.int .u64 ((rd_T32 l0_0 x8_1).f0.f1))).setCell ⟨gb527, 3, none⟩ (.int .i64 ((rd_T32 l0_0 x8_1).f0.f2))).setCell ⟨gb527, 4, none⟩ (.slice A526_4 ((rd_T32 l0_0 x8_1).f1).length c526_4)) = w38 at n0_ n1_ n2_ ⊢
       have BK522 := n0_
       have BK527 := n1_
       have HB := n2_
       clear n0_ n1_ n2_
       have n0_ := Aside0.mk (blk_drew BK522.out)
       have n1_ := Aside0.mk (blk_drew BK527.out)
       have n2_ := Aside0.mk (below_drew1 HB.out)
       clear BK522
       clear BK527
       clear HB
       have BK522 := n0_
       have BK527 := n1_
       have HB := n2_
       clear n0_ n1_ n2_
       refine start_ (n := 20) (S := fun w' => w'.cell? ⟨gb527, 0, none⟩ = some (.int .u64 ((rd_T32 l0_0 x8_1).f0.f0.f0)) ∧ w'.cell? ⟨gb527, 1, none⟩ = some (.int .i64 ((rd_T32 l0_0 x8_1).f0.f0.f1)) ∧ w'.cell? ⟨gb527, 2, none⟩ = some (.int .u64 ((rd_T32 l0_0 x8_1).f0.f1)) ∧ w'.cell? ⟨gb527, 3, none⟩ = some (.int .i64 ((rd_T32 l0_0 x8_1).f0.f2)) ∧ w'.cell? ⟨gb527, 4, none⟩ = some (.slice A526_4 ((rd_T32 l0_0 x8_1).f1).length c526_4)) (ds := []) #[F_,F_,F_,F_,F_,F_,F_,F_,F_,F_,F_,F_,F_,F_,F_,F_,F_,F_,F_,F_] (by kernel_rfl) rfl rfl ⟨(blk_cell BK527.out 0).trans rfl, (blk_cell BK527.out 1).trans rfl, (blk_cell BK527.out 2).trans rfl, (blk_cell BK527.out 3).trans rfl, (blk_cell BK527.out 4).trans rfl⟩ (fun hHeld => ?_); refine with_tabW content_Right.tab4 content_Right.bits4 (fun HT_ HW_ => ?_)
       generalize w38.drew = w39 at BK522 BK527 HB hHeld ⊢
       refine take_ (i := 0) (N := some 13) (v := ?_) (a' := ?_) #[T_,F_,F_,F_,F_,F_,F_,F_,F_,F_,F_,F_,F_,F_,F_,F_,F_,F_,F_,F_] rfl rfl (take_ofW HT_.out HW_.out (by kernel_rfl)) (fun _ _ _ h => h) (Or.inl ⟨by rfl, ?_⟩) hHeld ?_ ?_
       rotate_left
       ·
        rintro w' ⟨s0, s1, s2, s3, s4⟩
        go_simp
        with_reducible rfl
       rotate_left
       ·
        exact zp_
       refine one_ (i := 1) (N := some 14) #[T_,T_,F_,F_,F_,F_,F_,F_,F_,F_,F_,F_,F_,F_,F_,F_,F_,F_,F_,F_] rfl rfl (one_of HT_.out (by kernel_rfl)) (by decide) (fun K hK => ?_)
       refine goes_ Try.func49 (by kernel_rfl) rfl #[.agg #[.int .u64 ((rd_T32 l0_0 x8_1).f0.f0.f0), .int .i64 ((rd_T32 l0_0 x8_1).f0.f0.f1), .int .u64 ((rd_T32 l0_0 x8_1).f0.f1), .int .i64 ((rd_T32 l0_0 x8_1).f0.f2), .slice A526_4 ((rd_T32 l0_0 x8_1).f1).length c526_4]] (by rfl) rfl rfl za_ ?_
       with_reducible refine (content_Form.calls ((rd_T32 l0_0 x8_1).f0.f0.f0) ((rd_T32 l0_0 x8_1).f0.f0.f1) ((rd_T32 l0_0 x8_1).f0.f1) ((rd_T32 l0_0 x8_1).f0.f2) _ _ ((rd_T32 l0_0 x8_1).f1) false _ ?side1 ?side2 A7.out).mono ?_
       (case side1 => exact zc_ HR526_4 HB)
       (case side2 => exact HC526_4.out)
       rintro e w40 ⟨rfl, hb⟩
       refine ⟨_, rfl, ?_⟩
       have n0_ := zk_ BK522 hb
       have n1_ := zk_ BK527 hb
       have n2_ := Aside0.mk (below_step zb_ hb)
       clear BK522
       clear BK527
       clear HB
       have BK522 := n0_
       have BK527 := n1_
       have HB := n2_
       clear n0_ n1_ n2_
       (try clear hb)
       (try clear hb2)
       (try clear hk)
       (try clear hi)
       refine hK.out _ _ ⟨(blk_cell BK527.out 0).trans rfl, (blk_cell BK527.out 1).trans rfl, (blk_cell BK527.out 2).trans rfl, (blk_cell BK527.out 3).trans rfl, (blk_cell BK527.out 4).trans rfl⟩ (fun hHeld => ?_)
       clear hK K
       refine norm_ (a' := ?_) ?_ ?_
       rotate_left
       ·
        show Act.put _ (some 14) _ = _
        simp only [Act.put, List.setIfInBounds_toArray, List.set_cons_zero, List.set_cons_succ, i64_w, i32_w]
        rfl
       refine pure_ (i := 2) (N := some 15) (v := ?_) (a' := ?_) #[T_,T_,T_,F_,F_,F_,F_,F_,F_,F_,F_,F_,F_,F_,F_,F_,F_,F_,F_,F_] rfl rfl (any_of HT_.out (by kernel_rfl)) (fun _ _ _ h => h) (Or.inl ⟨by rfl, ?_⟩) ?_ ?_
       rotate_left
       ·
        intro w'; go_simp; with_reducible rfl
       rotate_left
       ·
        exact zp_
       refine pure_ (i := 3) (N := some 16) (v := ?_) (a' := ?_) #[T_,T_,T_,T_,F_,F_,F_,F_,F_,F_,F_,F_,F_,F_,F_,F_,F_,F_,F_,F_] rfl rfl (any_of HT_.out (by kernel_rfl)) (fun _ _ _ h => h) (Or.inl ⟨by rfl, ?_⟩) ?_ ?_
       rotate_left
       ·
        intro w'; go_simp; with_reducible rfl
       rotate_left
       ·
        exact zp_
       refine pure_ (i := 4) (N := some 17) (v := undef) (a' := ?_) #[T_,T_,T_,T_,T_,F_,F_,F_,F_,F_,F_,F_,F_,F_,F_,F_,F_,F_,F_,F_] rfl rfl (any_of HT_.out (by kernel_rfl)) (fun _ _ _ h => h) (Or.inr ⟨by rfl, rfl⟩) ?_ ?_
       rotate_left
       ·
        exact zp_
       refine pure_ (i := 5) (N := some 18) (v := undef) (a' := ?_) #[T_,T_,T_,T_,T_,T_,F_,F_,F_,F_,F_,F_,F_,F_,F_,F_,F_,F_,F_,F_] rfl rfl (any_of HT_.out (by kernel_rfl)) (fun _ _ _ h => h) (Or.inr ⟨by rfl, rfl⟩) ?_ ?_
       rotate_left
       ·
        exact zp_
       refine pure_ (i := 6) (N := some 19) (v := undef) (a' := ?_) #[T_,T_,T_,T_,T_,T_,T_,F_,F_,F_,F_,F_,F_,F_,F_,F_,F_,F_,F_,F_] rfl rfl (any_of HT_.out (by kernel_rfl)) (fun _ _ _ h => h) (Or.inr ⟨by rfl, rfl⟩) ?_ ?_
       rotate_left
       ·
        exact zp_
       refine pure_ (i := 7) (N := some 20) (v := undef) (a' := ?_) #[T_,T_,T_,T_,T_,T_,T_,T_,F_,F_,F_,F_,F_,F_,F_,F_,F_,F_,F_,F_] rfl rfl (any_of HT_.out (by kernel_rfl)) (fun _ _ _ h => h) (Or.inr ⟨by rfl, rfl⟩) ?_ ?_
       rotate_left
       ·
        exact zp_
       refine pure_ (i := 8) (N := some 21) (v := undef) (a' := ?_) #[T_,T_,T_,T_,T_,T_,T_,T_,T_,F_,F_,F_,F_,F_,F_,F_,F_,F_,F_,F_] rfl rfl (any_of HT_.out (by kernel_rfl)) (fun _ _ _ h => h) (Or.inr ⟨by rfl, rfl⟩) ?_ ?_
       rotate_left
       ·
        exact zp_
       refine pure_ (i := 9) (N := some 22) (v := undef) (a' := ?_) #[T_,T_,T_,T_,T_,T_,T_,T_,T_,T_,F_,F_,F_,F_,F_,F_,F_,F_,F_,F_] rfl rfl (any_of HT_.out (by kernel_rfl)) (fun _ _ _ h => h) (Or.inr ⟨by rfl, rfl⟩) ?_ ?_
       rotate_left
       ·
        exact zp_
       refine pure_ (i := 10) (N := some 23) (v := undef) (a' := ?_) #[T_,T_,T_,T_,T_,T_,T_,T_,T_,T_,T_,F_,F_,F_,F_,F_,F_,F_,F_,F_] rfl rfl (any_of HT_.out (by kernel_rfl)) (fun _ _ _ h => h) (Or.inr ⟨by rfl, rfl⟩) ?_ ?_
       rotate_left
       ·
        exact zp_
       refine pure_ (i := 11) (N := some 24) (v := undef) (a' := ?_) #[T_,T_,T_,T_,T_,T_,T_,T_,T_,T_,T_,T_,F_,F_,F_,F_,F_,F_,F_,F_] rfl rfl (any_of HT_.out (by kernel_rfl)) (fun _ _ _ h => h) (Or.inr ⟨by rfl, rfl⟩) ?_ ?_
       rotate_left
       ·
        exact zp_
       refine pure_ (i := 12) (N := some 25) (v := undef) (a' := ?_) #[T_,T_,T_,T_,T_,T_,T_,T_,T_,T_,T_,T_,T_,F_,F_,F_,F_,F_,F_,F_] rfl rfl (any_of HT_.out (by kernel_rfl)) (fun _ _ _ h => h) (Or.inr ⟨by rfl, rfl⟩) ?_ ?_
       rotate_left
       ·
        exact zp_
       refine pure_ (i := 13) (N := some 26) (v := undef) (a' := ?_) #[T_,T_,T_,T_,T_,T_,T_,T_,T_,T_,T_,T_,T_,T_,F_,F_,F_,F_,F_,F_] rfl rfl (any_of HT_.out (by kernel_rfl)) (fun _ _ _ h => h) (Or.inr ⟨by rfl, rfl⟩) ?_ ?_
       rotate_left
       ·
        exact zp_
       refine pure_ (i := 14) (N := some 27) (v := undef) (a' := ?_) #[T_,T_,T_,T_,T_,T_,T_,T_,T_,T_,T_,T_,T_,T_,T_,F_,F_,F_,F_,F_] rfl rfl (any_of HT_.out (by kernel_rfl)) (fun _ _ _ h => h) (Or.inr ⟨by rfl, rfl⟩) ?_ ?_
       rotate_left
       ·
        exact zp_
       refine pure_ (i := 15) (N := some 28) (v := undef) (a' := ?_) #[T_,T_,T_,T_,T_,T_,T_,T_,T_,T_,T_,T_,T_,T_,T_,T_,F_,F_,F_,F_] rfl rfl (any_of HT_.out (by kernel_rfl)) (fun _ _ _ h => h) (Or.inr ⟨by rfl, rfl⟩) ?_ ?_
       rotate_left
       ·
        exact zp_
       refine pure_ (i := 16) (N := some 29) (v := undef) (a' := ?_) #[T_,T_,T_,T_,T_,T_,T_,T_,T_,T_,T_,T_,T_,T_,T_,T_,T_,F_,F_,F_] rfl rfl (any_of HT_.out (by kernel_rfl)) (fun _ _ _ h => h) (Or.inr ⟨by rfl, rfl⟩) ?_ ?_
       rotate_left
       ·
        exact zp_
       refine pure_ (i := 17) (N := some 30) (v := undef) (a' := ?_) #[T_,T_,T_,T_,T_,T_,T_,T_,T_,T_,T_,T_,T_,T_,T_,T_,T_,T_,F_,F_] rfl rfl (any_of HT_.out (by kernel_rfl)) (fun _ _ _ h => h) (Or.inr ⟨by rfl, rfl⟩) ?_ ?_
       rotate_left
       ·
        exact zp_
       refine pure_ (i := 18) (N := some 31) (v := undef) (a' := ?_) #[T_,T_,T_,T_,T_,T_,T_,T_,T_,T_,T_,T_,T_,T_,T_,T_,T_,T_,T_,F_] rfl rfl (any_of HT_.out (by kernel_rfl)) (fun _ _ _ h => h) (Or.inr ⟨by rfl, rfl⟩) ?_ ?_
       rotate_left
       ·
        exact zp_
       refine pure_ (i := 19) (N := some 32) (v := ?_) (a' := ?_) #[T_,T_,T_,T_,T_,T_,T_,T_,T_,T_,T_,T_,T_,T_,T_,T_,T_,T_,T_,T_] rfl rfl (any_of HT_.out (by kernel_rfl)) (fun _ _ _ h => h) (Or.inl ⟨by rfl, ?_⟩) ?_ ?_
       rotate_left
       ·
        intro w'; go_simp; with_reducible rfl
       rotate_left
       ·
        exact zp_
       refine done_ (done_of HT_.out (by kernel_rfl)) ?_
       (try clear hHeld); (try clear HS0_)
       try go_wp2
       go_ret
       exact ⟨by first | rfl | (simp [errW_none, errW_some] <;> rfl) | (simp [*, errW_none, errW_some] <;> rfl), by repeat (first | (with_reducible first | exact HB.out | apply below_alloc | apply pw_below_drewN | apply below_drew1 | refine below_set ?_ GE522.out | refine below_set ?_ GE527.out) | exact HB.out)⟩
     ·
      rw [if_neg c6] at H
      exact absurd H (by simp)
    ·
     rw [if_neg c5] at H
     exact absurd H (by simp)
   ·
    rw [if_neg c4] at H
    have c4b0 : decide (x8_1 < (l0_0.length : Int)) = false := decide_eq_false c4
    clear c4
    replace H := Option.bind_eq_some_iff.mp H
    obtain ⟨t523, A410, H⟩ := H
    replace H : (if t523 = true then (some false) else ((label_Twice.f l0_1).bind fun t524 => (if t524 = true then (some false) else (if a0_2 ≥ 1 then (if a0_2 ≤ (wrap64 ((l0_1.length : Int) + 1)) then ((ident_Form.f a0_3 a0_4).bind fun t525 => (some t525)) else (some false)) else (some false))))) = some r := H
    have A41 := Aside0.mk A410
    clear A410
    by_cases c42 : t523 = true
    ·
     subst c42
     have H1 : (some false) = some r := by rw [if_pos rfl] at H; exact H
     clear H
     have H := H1
     clear H1
     obtain rfl := Option.some.inj H
     have hcz43_0 : wr.cell? ⟨gb522, 0, none⟩ = some (.slice A0_0 l0_0.length c0_0) := (blk_cell BK522.out 0).trans rfl
     have hcz43_1 : wr.cell? ⟨gb522, 1, none⟩ = some (.slice A0_1 l0_1.length c0_1) := (blk_cell BK522.out 1).trans rfl
     have hcz43_2 : wr.cell? ⟨gb522, 2, none⟩ = some (.int .i64 a0_2) := (blk_cell BK522.out 2).trans rfl
     have hcz43_3 : wr.cell? ⟨gb522, 3, none⟩ = some (.int .u64 a0_3) := (blk_cell BK522.out 3).trans rfl
     have hcz43_4 : wr.cell? ⟨gb522, 4, none⟩ = some (.int .i64 a0_4) := (blk_cell BK522.out 4).trans rfl
     have hfz43_0 := blk_frozen BK522.out 0
     have hfz43_1 := blk_frozen BK522.out 1
     have hfz43_2 := blk_frozen BK522.out 2
     have hfz43_3 := blk_frozen BK522.out 3
     have hfz43_4 := blk_frozen BK522.out 4
     go_wp2_with (first | ((with_reducible refine gate_callee (f := 105) rfl ?_); refine goesL_ (some 36) rfl rfl Try.func105 (by kernel_rfl) rfl #[.slice A0_1 l0_1.length c0_1, .func (.func 106) #[] #[]] rfl za_ ?_; (with_reducible refine (api_Label_105.calls k1 _ _ l0_1 true _ ?side1 ?side2 A41.out).mono ?_); (case side1 => exact zc_ HR0_1 HB); (case side2 => exact HC0_1.out); rintro e w44 ⟨rfl, hb⟩; refine ⟨_, rfl, ?_⟩; have n0_ := zk_ BK522 hb; have n1_ := Aside0.mk (below_step zb_ hb); clear BK522; clear HB; have BK522 := n0_; have HB := n1_; clear n0_ n1_; (try clear hb); (try clear hb2); (try clear hk); (try clear hi)))
     go_ret
     exact ⟨by first | rfl | (simp [errW_none, errW_some] <;> rfl) | (simp [*, errW_none, errW_some] <;> rfl), by repeat (first | (with_reducible first | exact HB.out | apply below_alloc | apply pw_below_drewN | apply below_drew1 | refine below_set ?_ GE522.out) | exact HB.out)⟩
    ·
     replace c42 := Bool.eq_false_iff.mpr c42
     subst c42
     have H1 : ((label_Twice.f l0_1).bind fun t524 => (if t524 = true then (some false) else (if a0_2 ≥ 1 then (if a0_2 ≤ (wrap64 ((l0_1.length : Int) + 1)) then ((ident_Form.f a0_3 a0_4).bind fun t525 => (some t525)) else (some false)) else (some false)))) = some r := by rw [if_neg (show ¬ (false = true) by decide)] at H; exact H
     clear H
     have H := H1
     clear H1
     replace H := Option.bind_eq_some_iff.mp H
     obtain ⟨t524, A450, H⟩ := H
     replace H : (if t524 = true then (some false) else (if a0_2 ≥ 1 then (if a0_2 ≤ (wrap64 ((l0_1.length : Int) + 1)) then ((ident_Form.f a0_3 a0_4).bind fun t525 => (some t525)) else (some false)) else (some false))) = some r := H
     have A45 := Aside0.mk A450
     clear A450
     by_cases c46 : t524 = true
     ·
      subst c46
      have H1 : (some false) = some r := by rw [if_pos rfl] at H; exact H
      clear H
      have H := H1
      clear H1
      obtain rfl := Option.some.inj H
      have hcz47_0 : wr.cell? ⟨gb522, 0, none⟩ = some (.slice A0_0 l0_0.length c0_0) := (blk_cell BK522.out 0).trans rfl
      have hcz47_1 : wr.cell? ⟨gb522, 1, none⟩ = some (.slice A0_1 l0_1.length c0_1) := (blk_cell BK522.out 1).trans rfl
      have hcz47_2 : wr.cell? ⟨gb522, 2, none⟩ = some (.int .i64 a0_2) := (blk_cell BK522.out 2).trans rfl
      have hcz47_3 : wr.cell? ⟨gb522, 3, none⟩ = some (.int .u64 a0_3) := (blk_cell BK522.out 3).trans rfl
      have hcz47_4 : wr.cell? ⟨gb522, 4, none⟩ = some (.int .i64 a0_4) := (blk_cell BK522.out 4).trans rfl
      have hfz47_0 := blk_frozen BK522.out 0
      have hfz47_1 := blk_frozen BK522.out 1
      have hfz47_2 := blk_frozen BK522.out 2
      have hfz47_3 := blk_frozen BK522.out 3
      have hfz47_4 := blk_frozen BK522.out 4
      go_wp2_with (first | ((with_reducible refine gate_callee (f := 105) rfl ?_); refine goesL_ (some 36) rfl rfl Try.func105 (by kernel_rfl) rfl #[.slice A0_1 l0_1.length c0_1, .func (.func 106) #[] #[]] rfl za_ ?_; (with_reducible refine (api_Label_105.calls k1 _ _ l0_1 false _ ?side1 ?side2 A41.out).mono ?_); (case side1 => exact zc_ HR0_1 HB); (case side2 => exact HC0_1.out); rintro e w48 ⟨rfl, hb⟩; refine ⟨_, rfl, ?_⟩; have n0_ := zk_ BK522 hb; have n1_ := Aside0.mk (below_step zb_ hb); clear BK522; clear HB; have BK522 := n0_; have HB := n1_; clear n0_ n1_; (try clear hb); (try clear hb2); (try clear hk); (try clear hi); have hcz49_0 : w48.cell? ⟨gb522, 0, none⟩ = some (.slice A0_0 l0_0.length c0_0) := (blk_cell BK522.out 0).trans rfl; have hcz49_1 : w48.cell? ⟨gb522, 1, none⟩ = some (.slice A0_1 l0_1.length c0_1) := (blk_cell BK522.out 1).trans rfl; have hcz49_2 : w48.cell? ⟨gb522, 2, none⟩ = some (.int .i64 a0_2) := (blk_cell BK522.out 2).trans rfl; have hcz49_3 : w48.cell? ⟨gb522, 3, none⟩ = some (.int .u64 a0_3) := (blk_cell BK522.out 3).trans rfl; have hcz49_4 : w48.cell? ⟨gb522, 4, none⟩ = some (.int .i64 a0_4) := (blk_cell BK522.out 4).trans rfl; have hfz49_0 := blk_frozen BK522.out 0; have hfz49_1 := blk_frozen BK522.out 1; have hfz49_2 := blk_frozen BK522.out 2; have hfz49_3 := blk_frozen BK522.out 3; have hfz49_4 := blk_frozen BK522.out 4) | (go_at_call 38; (with_reducible refine (label_Twice.calls _ _ l0_1 true _ ?side1 ?side2 A45.out).mono ?_); (case side1 => exact zc_ HR0_1 HB); (case side2 => exact HC0_1.out); rintro e w50 ⟨rfl, hb⟩; have n0_ := zk_ BK522 hb; have n1_ := Aside0.mk (below_step zb_ hb); clear BK522; clear HB; have BK522 := n0_; have HB := n1_; clear n0_ n1_; (try clear hb); (try clear hb2); (try clear hk); (try clear hi)))
      go_ret
      exact ⟨by first | rfl | (simp [errW_none, errW_some] <;> rfl) | (simp [*, errW_none, errW_some] <;> rfl), by repeat (first | (with_reducible first | exact HB.out | apply below_alloc | apply pw_below_drewN | apply below_drew1 | refine below_set ?_ GE522.out) | exact HB.out)⟩
     ·
      replace c46 := Bool.eq_false_iff.mpr c46
      subst c46
      have H1 : (if a0_2 ≥ 1 then (if a0_2 ≤ (wrap64 ((l0_1.length : Int) + 1)) then ((ident_Form.f a0_3 a0_4).bind fun t525 => (some t525)) else (some false)) else (some false)) = some r := by rw [if_neg (show ¬ (false = true) by decide)] at H; exact H
      clear H
      have H := H1
      clear H1
      by_cases c51 : a0_2 ≥ 1
      ·
       rw [if_pos c51] at H
       have c51b0 : decide (1 ≤ a0_2) = true := decide_eq_true c51
       clear c51
       by_cases c52 : a0_2 ≤ (wrap64 ((l0_1.length : Int) + 1))
       ·
        rw [if_pos c52] at H
        have c52b0 : decide (a0_2 ≤ (wrap64 ((l0_1.length : Int) + 1))) = true := decide_eq_true c52
        clear c52
        replace H := Option.bind_eq_some_iff.mp H
        obtain ⟨t525, A530, H⟩ := H
        replace H : (some t525) = some r := H
        have A53 := Aside0.mk A530
        clear A530
        obtain rfl := Option.some.inj H
        have hcz54_0 : wr.cell? ⟨gb522, 0, none⟩ = some (.slice A0_0 l0_0.length c0_0) := (blk_cell BK522.out 0).trans rfl
        have hcz54_1 : wr.cell? ⟨gb522, 1, none⟩ = some (.slice A0_1 l0_1.length c0_1) := (blk_cell BK522.out 1).trans rfl
        have hcz54_2 : wr.cell? ⟨gb522, 2, none⟩ = some (.int .i64 a0_2) := (blk_cell BK522.out 2).trans rfl
        have hcz54_3 : wr.cell? ⟨gb522, 3, none⟩ = some (.int .u64 a0_3) := (blk_cell BK522.out 3).trans rfl
        have hcz54_4 : wr.cell? ⟨gb522, 4, none⟩ = some (.int .i64 a0_4) := (blk_cell BK522.out 4).trans rfl
        have hfz54_0 := blk_frozen BK522.out 0
        have hfz54_1 := blk_frozen BK522.out 1
        have hfz54_2 := blk_frozen BK522.out 2
        have hfz54_3 := blk_frozen BK522.out 3
        have hfz54_4 := blk_frozen BK522.out 4
        go_wp2_with (first | ((with_reducible refine gate_callee (f := 105) rfl ?_); refine goesL_ (some 36) rfl rfl Try.func105 (by kernel_rfl) rfl #[.slice A0_1 l0_1.length c0_1, .func (.func 106) #[] #[]] rfl za_ ?_; (with_reducible refine (api_Label_105.calls k1 _ _ l0_1 false _ ?side1 ?side2 A41.out).mono ?_); (case side1 => exact zc_ HR0_1 HB); (case side2 => exact HC0_1.out); rintro e w55 ⟨rfl, hb⟩; refine ⟨_, rfl, ?_⟩; have n0_ := zk_ BK522 hb; have n1_ := Aside0.mk (below_step zb_ hb); clear BK522; clear HB; have BK522 := n0_; have HB := n1_; clear n0_ n1_; (try clear hb); (try clear hb2); (try clear hk); (try clear hi); have hcz56_0 : w55.cell? ⟨gb522, 0, none⟩ = some (.slice A0_0 l0_0.length c0_0) := (blk_cell BK522.out 0).trans rfl; have hcz56_1 : w55.cell? ⟨gb522, 1, none⟩ = some (.slice A0_1 l0_1.length c0_1) := (blk_cell BK522.out 1).trans rfl; have hcz56_2 : w55.cell? ⟨gb522, 2, none⟩ = some (.int .i64 a0_2) := (blk_cell BK522.out 2).trans rfl; have hcz56_3 : w55.cell? ⟨gb522, 3, none⟩ = some (.int .u64 a0_3) := (blk_cell BK522.out 3).trans rfl; have hcz56_4 : w55.cell? ⟨gb522, 4, none⟩ = some (.int .i64 a0_4) := (blk_cell BK522.out 4).trans rfl; have hfz56_0 := blk_frozen BK522.out 0; have hfz56_1 := blk_frozen BK522.out 1; have hfz56_2 := blk_frozen BK522.out 2; have hfz56_3 := blk_frozen BK522.out 3; have hfz56_4 := blk_frozen BK522.out 4) | (go_at_call 38; (with_reducible refine (label_Twice.calls _ _ l0_1 false _ ?side1 ?side2 A45.out).mono ?_); (case side1 => exact zc_ HR0_1 HB); (case side2 => exact HC0_1.out); rintro e w57 ⟨rfl, hb⟩; have n0_ := zk_ BK522 hb; have n1_ := Aside0.mk (below_step zb_ hb); clear BK522; clear HB; have BK522 := n0_; have HB := n1_; clear n0_ n1_; (try clear hb); (try clear hb2); (try clear hk); (try clear hi); have hcz58_0 : w57.cell? ⟨gb522, 0, none⟩ = some (.slice A0_0 l0_0.length c0_0) := (blk_cell BK522.out 0).trans rfl; have hcz58_1 : w57.cell? ⟨gb522, 1, none⟩ = some (.slice A0_1 l0_1.length c0_1) := (blk_cell BK522.out 1).trans rfl; have hcz58_2 : w57.cell? ⟨gb522, 2, none⟩ = some (.int .i64 a0_2) := (blk_cell BK522.out 2).trans rfl; have hcz58_3 : w57.cell? ⟨gb522, 3, none⟩ = some (.int .u64 a0_3) := (blk_cell BK522.out 3).trans rfl; have hcz58_4 : w57.cell? ⟨gb522, 4, none⟩ = some (.int .i64 a0_4) := (blk_cell BK522.out 4).trans rfl; have hfz58_0 := blk_frozen BK522.out 0; have hfz58_1 := blk_frozen BK522.out 1; have hfz58_2 := blk_frozen BK522.out 2; have hfz58_3 := blk_frozen BK522.out 3; have hfz58_4 := blk_frozen BK522.out 4) | (go_at_call 83; (with_reducible refine (ident_Form.calls a0_3 a0_4 t525 _ A53.out).mono ?_); rintro e w59 ⟨rfl, hb⟩; have n0_ := zk_ BK522 hb; have n1_ := Aside0.mk (below_step zb_ hb); clear BK522; clear HB; have BK522 := n0_; have HB := n1_; clear n0_ n1_; (try clear hb); (try clear hb2); (try clear hk); (try clear hi)))
        go_ret
        exact ⟨by first | rfl | (simp [errW_none, errW_some] <;> rfl) | (simp [*, errW_none, errW_some] <;> rfl), by repeat (first | (with_reducible first | exact HB.out | apply below_alloc | apply pw_below_drewN | apply below_drew1 | refine below_set ?_ GE522.out) | exact HB.out)⟩
       ·
        rw [if_neg c52] at H
        have c52b0 : decide (a0_2 ≤ (wrap64 ((l0_1.length : Int) + 1))) = false := decide_eq_false c52
        clear c52
        obtain rfl := Option.some.inj H
        have hcz60_0 : wr.cell? ⟨gb522, 0, none⟩ = some (.slice A0_0 l0_0.length c0_0) := (blk_cell BK522.out 0).trans rfl
        have hcz60_1 : wr.cell? ⟨gb522, 1, none⟩ = some (.slice A0_1 l0_1.length c0_1) := (blk_cell BK522.out 1).trans rfl
        have hcz60_2 : wr.cell? ⟨gb522, 2, none⟩ = some (.int .i64 a0_2) := (blk_cell BK522.out 2).trans rfl
        have hcz60_3 : wr.cell? ⟨gb522, 3, none⟩ = some (.int .u64 a0_3) := (blk_cell BK522.out 3).trans rfl
        have hcz60_4 : wr.cell? ⟨gb522, 4, none⟩ = some (.int .i64 a0_4) := (blk_cell BK522.out 4).trans rfl
        have hfz60_0 := blk_frozen BK522.out 0
        have hfz60_1 := blk_frozen BK522.out 1
        have hfz60_2 := blk_frozen BK522.out 2
        have hfz60_3 := blk_frozen BK522.out 3
        have hfz60_4 := blk_frozen BK522.out 4
        go_wp2_with (first | ((with_reducible refine gate_callee (f := 105) rfl ?_); refine goesL_ (some 36) rfl rfl Try.func105 (by kernel_rfl) rfl #[.slice A0_1 l0_1.length c0_1, .func (.func 106) #[] #[]] rfl za_ ?_; (with_reducible refine (api_Label_105.calls k1 _ _ l0_1 false _ ?side1 ?side2 A41.out).mono ?_); (case side1 => exact zc_ HR0_1 HB); (case side2 => exact HC0_1.out); rintro e w61 ⟨rfl, hb⟩; refine ⟨_, rfl, ?_⟩; have n0_ := zk_ BK522 hb; have n1_ := Aside0.mk (below_step zb_ hb); clear BK522; clear HB; have BK522 := n0_; have HB := n1_; clear n0_ n1_; (try clear hb); (try clear hb2); (try clear hk); (try clear hi); have hcz62_0 : w61.cell? ⟨gb522, 0, none⟩ = some (.slice A0_0 l0_0.length c0_0) := (blk_cell BK522.out 0).trans rfl; have hcz62_1 : w61.cell? ⟨gb522, 1, none⟩ = some (.slice A0_1 l0_1.length c0_1) := (blk_cell BK522.out 1).trans rfl; have hcz62_2 : w61.cell? ⟨gb522, 2, none⟩ = some (.int .i64 a0_2) := (blk_cell BK522.out 2).trans rfl; have hcz62_3 : w61.cell? ⟨gb522, 3, none⟩ = some (.int .u64 a0_3) := (blk_cell BK522.out 3).trans rfl; have hcz62_4 : w61.cell? ⟨gb522, 4, none⟩ = some (.int .i64 a0_4) := (blk_cell BK522.out 4).trans rfl; have hfz62_0 := blk_frozen BK522.out 0; have hfz62_1 := blk_frozen BK522.out 1; have hfz62_2 := blk_frozen BK522.out 2; have hfz62_3 := blk_frozen BK522.out 3; have hfz62_4 := blk_frozen BK522.out 4) | (go_at_call 38; (with_reducible refine (label_Twice.calls _ _ l0_1 false _ ?side1 ?side2 A45.out).mono ?_); (case side1 => exact zc_ HR0_1 HB); (case side2 => exact HC0_1.out); rintro e w63 ⟨rfl, hb⟩; have n0_ := zk_ BK522 hb; have n1_ := Aside0.mk (below_step zb_ hb); clear BK522; clear HB; have BK522 := n0_; have HB := n1_; clear n0_ n1_; (try clear hb); (try clear hb2); (try clear hk); (try clear hi); have hcz64_0 : w63.cell? ⟨gb522, 0, none⟩ = some (.slice A0_0 l0_0.length c0_0) := (blk_cell BK522.out 0).trans rfl; have hcz64_1 : w63.cell? ⟨gb522, 1, none⟩ = some (.slice A0_1 l0_1.length c0_1) := (blk_cell BK522.out 1).trans rfl; have hcz64_2 : w63.cell? ⟨gb522, 2, none⟩ = some (.int .i64 a0_2) := (blk_cell BK522.out 2).trans rfl; have hcz64_3 : w63.cell? ⟨gb522, 3, none⟩ = some (.int .u64 a0_3) := (blk_cell BK522.out 3).trans rfl; have hcz64_4 : w63.cell? ⟨gb522, 4, none⟩ = some (.int .i64 a0_4) := (blk_cell BK522.out 4).trans rfl; have hfz64_0 := blk_frozen BK522.out 0; have hfz64_1 := blk_frozen BK522.out 1; have hfz64_2 := blk_frozen BK522.out 2; have hfz64_3 := blk_frozen BK522.out 3; have hfz64_4 := blk_frozen BK522.out 4))
        go_ret
        exact ⟨by first | rfl | (simp [errW_none, errW_some] <;> rfl) | (simp [*, errW_none, errW_some] <;> rfl), by repeat (first | (with_reducible first | exact HB.out | apply below_alloc | apply pw_below_drewN | apply below_drew1 | refine below_set ?_ GE522.out) | exact HB.out)⟩
      ·
       rw [if_neg c51] at H
       have c51b0 : decide (1 ≤ a0_2) = false := decide_eq_false c51
       clear c51
       obtain rfl := Option.some.inj H
       have hcz65_0 : wr.cell? ⟨gb522, 0, none⟩ = some (.slice A0_0 l0_0.length c0_0) := (blk_cell BK522.out 0).trans rfl
       have hcz65_1 : wr.cell? ⟨gb522, 1, none⟩ = some (.slice A0_1 l0_1.length c0_1) := (blk_cell BK522.out 1).trans rfl
       have hcz65_2 : wr.cell? ⟨gb522, 2, none⟩ = some (.int .i64 a0_2) := (blk_cell BK522.out 2).trans rfl
       have hcz65_3 : wr.cell? ⟨gb522, 3, none⟩ = some (.int .u64 a0_3) := (blk_cell BK522.out 3).trans rfl
       have hcz65_4 : wr.cell? ⟨gb522, 4, none⟩ = some (.int .i64 a0_4) := (blk_cell BK522.out 4).trans rfl
       have hfz65_0 := blk_frozen BK522.out 0
       have hfz65_1 := blk_frozen BK522.out 1
       have hfz65_2 := blk_frozen BK522.out 2
       have hfz65_3 := blk_frozen BK522.out 3
       have hfz65_4 := blk_frozen BK522.out 4
       go_wp2_with (first | ((with_reducible refine gate_callee (f := 105) rfl ?_); refine goesL_ (some 36) rfl rfl Try.func105 (by kernel_rfl) rfl #[.slice A0_1 l0_1.length c0_1, .func (.func 106) #[] #[]] rfl za_ ?_; (with_reducible refine (api_Label_105.calls k1 _ _ l0_1 false _ ?side1 ?side2 A41.out).mono ?_); (case side1 => exact zc_ HR0_1 HB); (case side2 => exact HC0_1.out); rintro e w66 ⟨rfl, hb⟩; refine ⟨_, rfl, ?_⟩; have n0_ := zk_ BK522 hb; have n1_ := Aside0.mk (below_step zb_ hb); clear BK522; clear HB; have BK522 := n0_; have HB := n1_; clear n0_ n1_; (try clear hb); (try clear hb2); (try clear hk); (try clear hi); have hcz67_0 : w66.cell? ⟨gb522, 0, none⟩ = some (.slice A0_0 l0_0.length c0_0) := (blk_cell BK522.out 0).trans rfl; have hcz67_1 : w66.cell? ⟨gb522, 1, none⟩ = some (.slice A0_1 l0_1.length c0_1) := (blk_cell BK522.out 1).trans rfl; have hcz67_2 : w66.cell? ⟨gb522, 2, none⟩ = some (.int .i64 a0_2) := (blk_cell BK522.out 2).trans rfl; have hcz67_3 : w66.cell? ⟨gb522, 3, none⟩ = some (.int .u64 a0_3) := (blk_cell BK522.out 3).trans rfl; have hcz67_4 : w66.cell? ⟨gb522, 4, none⟩ = some (.int .i64 a0_4) := (blk_cell BK522.out 4).trans rfl; have hfz67_0 := blk_frozen BK522.out 0; have hfz67_1 := blk_frozen BK522.out 1; have hfz67_2 := blk_frozen BK522.out 2; have hfz67_3 := blk_frozen BK522.out 3; have hfz67_4 := blk_frozen BK522.out 4) | (go_at_call 38; (with_reducible refine (label_Twice.calls _ _ l0_1 false _ ?side1 ?side2 A45.out).mono ?_); (case side1 => exact zc_ HR0_1 HB); (case side2 => exact HC0_1.out); rintro e w68 ⟨rfl, hb⟩; have n0_ := zk_ BK522 hb; have n1_ := Aside0.mk (below_step zb_ hb); clear BK522; clear HB; have BK522 := n0_; have HB := n1_; clear n0_ n1_; (try clear hb); (try clear hb2); (try clear hk); (try clear hi); have hcz69_0 : w68.cell? ⟨gb522, 0, none⟩ = some (.slice A0_0 l0_0.length c0_0) := (blk_cell BK522.out 0).trans rfl; have hcz69_1 : w68.cell? ⟨gb522, 1, none⟩ = some (.slice A0_1 l0_1.length c0_1) := (blk_cell BK522.out 1).trans rfl; have hcz69_2 : w68.cell? ⟨gb522, 2, none⟩ = some (.int .i64 a0_2) := (blk_cell BK522.out 2).trans rfl; have hcz69_3 : w68.cell? ⟨gb522, 3, none⟩ = some (.int .u64 a0_3) := (blk_cell BK522.out 3).trans rfl; have hcz69_4 : w68.cell? ⟨gb522, 4, none⟩ = some (.int .i64 a0_4) := (blk_cell BK522.out 4).trans rfl; have hfz69_0 := blk_frozen BK522.out 0; have hfz69_1 := blk_frozen BK522.out 1; have hfz69_2 := blk_frozen BK522.out 2; have hfz69_3 := blk_frozen BK522.out 3; have hfz69_4 := blk_frozen BK522.out 4))
       go_ret
       exact ⟨by first | rfl | (simp [errW_none, errW_some] <;> rfl) | (simp [*, errW_none, errW_some] <;> rfl), by repeat (first | (with_reducible first | exact HB.out | apply below_alloc | apply pw_below_drewN | apply below_drew1 | refine below_set ?_ GE522.out) | exact HB.out)⟩
end Go.Proofs.Ytioooiflpabngaa.PAll
end
section
namespace Go.Proofs.Ytioooiflpabngaa.PAll
open Go.RowKit Go.Proofs.YtioooiflpabngaaW.PrintWords Go.Proofs.YtioooiflpabngaaW.PrintLast Go.Proofs.YtioooiflpabngaaW.PrintMore
attribute [local go_sem] max2_int min2_int max_two min_two max_three min_three max_four min_four   -- for this text's walks alone
set_option linter.unusedVariables false
set_option linter.unusedSimpArgs false
def folkmootref15_Form.f (a0_0 : Int) (a0_1 : Int) (a0_2 : Int) (a0_3 : Int) (l0_4 : List Int) : Option (Bool) := (folkmootref05_Form.f a0_0 a0_1 a0_2 a0_3).bind fun t503 => (if t503 = true then (some (decide ((l0_4.length : Int) ≤ 64))) else (some false))
set_option maxHeartbeats 8000000 in
set_option maxRecDepth 100000 in
theorem folkmootref15_Form.calls (a0_0 : Int) (a0_1 : Int) (a0_2 : Int) (a0_3 : Int) (A0_4 : Option Addr) (c0_4 : Nat) (l0_4 : List Int) (r : Bool) (w : World) (hr0_4 : Kd.C (Kd.int .u8) w A0_4 l0_4.length l0_4) (hc0_4 : l0_4.length ≤ c0_4) (h : folkmootref15_Form.f a0_0 a0_1 a0_2 a0_3 l0_4 = some r) :
  Calls Try.prog 44 #[.agg #[.int .u64 a0_0, .int .i64 a0_1, .int .u64 a0_2, .int .i64 a0_3, .slice A0_4 l0_4.length c0_4]] w fun e w' => e = .returned (.bool r) ∧ Below w.heap.size w w' := by
 have hu32 := Try.underlying32
 have hu27 := Try.underlying27
 have HR0_4 := Aside0.mk hr0_4
 have HC0_4 := Aside0.mk hc0_4
 clear hr0_4 hc0_4
 have HB := Aside0.mk (Below.refl w.heap.size w)
 have H : ((folkmootref05_Form.f a0_0 a0_1 a0_2 a0_3).bind fun t503 => (if t503 = true then (some (decide ((l0_4.length : Int) ≤ 64))) else (some false))) = some r := h
 clear h
 replace H := Option.bind_eq_some_iff.mp H
 obtain ⟨t503, A20, H⟩ := H
 replace H : (if t503 = true then (some (decide ((l0_4.length : Int) ≤ 64))) else (some false)) = some r := H
 have A2 := Aside0.mk A20
 clear A20
 by_cases c3 : t503 = true
 ·
  subst c3
  have H1 : (some (decide ((l0_4.length : Int) ≤ 64))) = some r := by rw [if_pos rfl] at H; exact H
  clear H
  have H := H1
  clear H1
  obtain rfl := Option.some.inj H
  go_enter Try.func44, Try.ntmps44
  go_wp2_with (first | ((with_reducible refine gate_dst (N := 1) rfl ?_); (try (refine gate_guard (by rfl) ?_; dsimp only)); refine box_event ?hg (N := 1) ?hd (cs := #[.int .u64 a0_0, .int .i64 a0_1, .int .u64 a0_2, .int .i64 a0_3, .slice A0_4 l0_4.length c0_4]) (t := 32) ?hr ?_; (case hd => rfl); (case hg => rfl); (case hr => first | (go_simp; done) | (go_simp; rfl)); intro gb502 hg w4 hbox hb; have n0_ := Aside0.mk (below_step zb_ hb); have n1_ := Aside0.mk (hbox); have n2_ := Aside0.mk ((by rw [hg]; exact (below_size zb_) : w.heap.size ≤ gb502)); have n3_ := Aside0.mk ((by rw [hg]; exact (below_size zb_) : w.heap.size ≤ gb502)); clear HB; have HB := n0_; have BK502 := n1_; have GW502 := n2_; have GE502 := n3_; clear n0_ n1_ n2_ n3_; clear hb hbox hg; have hcz5_0 : w4.cell? ⟨gb502, 0, none⟩ = some (.int .u64 a0_0) := (blk_cell BK502.out 0).trans rfl; have hcz5_1 : w4.cell? ⟨gb502, 1, none⟩ = some (.int .i64 a0_1) := (blk_cell BK502.out 1).trans rfl; have hcz5_2 : w4.cell? ⟨gb502, 2, none⟩ = some (.int .u64 a0_2) := (blk_cell BK502.out 2).trans rfl; have hcz5_3 : w4.cell? ⟨gb502, 3, none⟩ = some (.int .i64 a0_3) := (blk_cell BK502.out 3).trans rfl; have hcz5_4 : w4.cell? ⟨gb502, 4, none⟩ = some (.slice A0_4 l0_4.length c0_4) := (blk_cell BK502.out 4).trans rfl; have hfz5_0 := blk_frozen BK502.out 0; have hfz5_1 := blk_frozen BK502.out 1; have hfz5_2 := blk_frozen BK502.out 2; have hfz5_3 := blk_frozen BK502.out 3; have hfz5_4 := blk_frozen BK502.out 4) | ((with_reducible refine gate_callee (f := 41) rfl ?_); refine goesL_ (some 5) rfl rfl Try.func41 (by kernel_rfl) rfl #[.agg #[.int .u64 a0_0, .int .i64 a0_1, .int .u64 a0_2, .int .i64 a0_3]] rfl za_ ?_; (with_reducible refine (folkmootref05_Form.calls a0_0 a0_1 a0_2 a0_3 true _ A2.out).mono ?_); rintro e w6 ⟨rfl, hb⟩; refine ⟨_, rfl, ?_⟩; have n0_ := zk_ BK502 hb; have n1_ := Aside0.mk (below_step zb_ hb); clear BK502; clear HB; have BK502 := n0_; have HB := n1_; clear n0_ n1_; (try clear hb); (try clear hb2); (try clear hk); (try clear hi); have hcz7_0 : w6.cell? ⟨gb502, 0, none⟩ = some (.int .u64 a0_0) := (blk_cell BK502.out 0).trans rfl; have hcz7_1 : w6.cell? ⟨gb502, 1, none⟩ = some (.int .i64 a0_1) := (blk_cell BK502.out 1).trans rfl; have hcz7_2 : w6.cell? ⟨gb502, 2, none⟩ = some (.int .u64 a0_2) := (blk_cell BK502.out 2).trans rfl; have hcz7_3 : w6.cell? ⟨gb502, 3, none⟩ = some (.int .i64 a0_3) := (blk_cell BK502.out 3).trans rfl; have hcz7_4 : w6.cell? ⟨gb502, 4, none⟩ = some (.slice A0_4 l0_4.length c0_4) := (blk_cell BK502.out 4).trans rfl; have hfz7_0 := blk_frozen BK502.out 0; have hfz7_1 := blk_frozen BK502.out 1; have hfz7_2 := blk_frozen BK502.out 2; have hfz7_3 := blk_frozen BK502.out 3; have hfz7_4 := blk_frozen BK502.out 4))
  go_ret
  exact ⟨by first | rfl | (simp [errW_none, errW_some] <;> rfl) | (simp [*, errW_none, errW_some] <;> rfl), by repeat (first | (with_reducible first | exact HB.out | apply below_alloc | apply pw_below_drewN | apply below_drew1 | refine below_set ?_ GE502.out) | exact HB.out)⟩
 ·
  replace c3 := Bool.eq_false_iff.mpr c3
  subst c3
  have H1 : (some false) = some r := by rw [if_neg (show ¬ (false = true) by decide)] at H; exact H
  clear H
  have H := H1
  clear H1
  obtain rfl := Option.some.inj H
  go_enter Try.func44, Try.ntmps44
  go_wp2_with (first | ((with_reducible refine gate_dst (N := 1) rfl ?_); (try (refine gate_guard (by rfl) ?_; dsimp only)); refine box_event ?hg (N := 1) ?hd (cs := #[.int .u64 a0_0, .int .i64 a0_1, .int .u64 a0_2, .int .i64 a0_3, .slice A0_4 l0_4.length c0_4]) (t := 32) ?hr ?_; (case hd => rfl); (case hg => rfl); (case hr => first | (go_simp; done) | (go_simp; rfl)); intro gb502 hg w8 hbox hb; have n0_ := Aside0.mk (below_step zb_ hb); have n1_ := Aside0.mk (hbox); have n2_ := Aside0.mk ((by rw [hg]; exact (below_size zb_) : w.heap.size ≤ gb502)); have n3_ := Aside0.mk ((by rw [hg]; exact (below_size zb_) : w.heap.size ≤ gb502)); clear HB; have HB := n0_; have BK502 := n1_; have GW502 := n2_; have GE502 := n3_; clear n0_ n1_ n2_ n3_; clear hb hbox hg; have hcz9_0 : w8.cell? ⟨gb502, 0, none⟩ = some (.int .u64 a0_0) := (blk_cell BK502.out 0).trans rfl; have hcz9_1 : w8.cell? ⟨gb502, 1, none⟩ = some (.int .i64 a0_1) := (blk_cell BK502.out 1).trans rfl; have hcz9_2 : w8.cell? ⟨gb502, 2, none⟩ = some (.int .u64 a0_2) := (blk_cell BK502.out 2).trans rfl; have hcz9_3 : w8.cell? ⟨gb502, 3, none⟩ = some (.int .i64 a0_3) := (blk_cell BK502.out 3).trans rfl; have hcz9_4 : w8.cell? ⟨gb502, 4, none⟩ = some (.slice A0_4 l0_4.length c0_4) := (blk_cell BK502.out 4).trans rfl; have hfz9_0 := blk_frozen BK502.out 0; have hfz9_1 := blk_frozen BK502.out 1; have hfz9_2 := blk_frozen BK502.out 2; have hfz9_3 := blk_frozen BK502.out 3; have hfz9_4 := blk_frozen BK502.out 4) | ((with_reducible refine gate_callee (f := 41) rfl ?_); refine goesL_ (some 5) rfl rfl Try.func41 (by kernel_rfl) rfl #[.agg #[.int .u64 a0_0, .int .i64 a0_1, .int .u64 a0_2, .int .i64 a0_3]] rfl za_ ?_; (with_reducible refine (folkmootref05_Form.calls a0_0 a0_1 a0_2 a0_3 false _ A2.out).mono ?_); rintro e w10 ⟨rfl, hb⟩; refine ⟨_, rfl, ?_⟩; have n0_ := zk_ BK502 hb; have n1_ := Aside0.mk (below_step zb_ hb); clear BK502; clear HB; have BK502 := n0_; have HB := n1_; clear n0_ n1_; (try clear hb); (try clear hb2); (try clear hk); (try clear hi)))
  go_ret
  exact ⟨by first | rfl | (simp [errW_none, errW_some] <;> rfl) | (simp [*, errW_none, errW_some] <;> rfl), by repeat (first | (with_reducible first | exact HB.out | apply below_alloc | apply pw_below_drewN | apply below_drew1 | refine below_set ?_ GE502.out) | exact HB.out)⟩
end Go.Proofs.Ytioooiflpabngaa.PAll
end
section
namespace Go.Proofs.Ytioooiflpabngaa.PAll
open Go.RowKit Go.Proofs.YtioooiflpabngaaW.PrintWords
set_option linter.unusedVariables false
set_option linter.unusedSimpArgs false
theorem one_ev {x : S32} (h : FormL x.f0) (hm : x.f1.length ≤ 64) : Ev (fun k => content_EncodeOne.f k x.f0.f0.f0 x.f0.f0.f1 x.f0.f1 x.f0.f2 x.f1) (1 :: entB x, 0) := by
  unfold content_EncodeOne.f content_Form.f
  rw [h.label]
  have hl := labB_length h
  have c1 : (x.f1.length : Int) ≤ 64 := by omega
  simp only [Option.bind_some, if_true, c1, decide_true]
  refine Ev.bind (label_ev h [1] (by simp)) ?_
  exact Ev.bind (bytes_ev x.f1 ([1] ++ labB x.f0) hm (by simp; omega)) (Ev.const fun _ => by simp [entB])
end Go.Proofs.Ytioooiflpabngaa.PAll
end
section
namespace Go.Proofs.Ytioooiflpabngaa.PAll
open Go.RowKit Go.Proofs.YtioooiflpabngaaW.PrintWords Go.Proofs.YtioooiflpabngaaW.PrintLast Go.Proofs.YtioooiflpabngaaW.PrintMore
attribute [local go_sem] max2_int min2_int max_two min_two max_three min_three max_four min_four   -- for this text's walks alone
set_option linter.unusedVariables false
set_option linter.unusedSimpArgs false
attribute [local go_sem high] eqA27
def folkmootref15_Same.l0 : Nat → List (S32) → List (S32) → Int → Option (Bool)
 | 0, _, _, _ => none
 | k + 1, x0, x1, x5 => if x5 < (x0.length : Int) then (if 0 ≤ x5 then (if x5 < (x1.length : Int) then (if ((!(((rd_T32 x0 x5).f0.f0.f0) == ((rd_T32 x1 x5).f0.f0.f0)) || (!(((rd_T32 x0 x5).f0.f0.f1) == ((rd_T32 x1 x5).f0.f0.f1)))) || (!(((rd_T32 x0 x5).f0.f1) == ((rd_T32 x1 x5).f0.f1)) || (!(((rd_T32 x0 x5).f0.f2) == ((rd_T32 x1 x5).f0.f2))))) = true then (some false) else (if (strOfNums ((rd_T32 x0 x5).f1)).toList = (strOfNums ((rd_T32 x1 x5).f1)).toList then (folkmootref15_Same.l0 k x0 x1 (wrap64 (x5 + 1))) else (some false))) else (none)) else (none)) else (some true)
def folkmootref15_Same.f (k : Nat) (l0 : List (S32)) (l1 : List (S32)) : Option (Bool) := if (l0.length : Int) = (l1.length : Int) then (folkmootref15_Same.l0 k l0 l1 0) else (some false)
set_option maxHeartbeats 8000000 in
set_option maxRecDepth 100000 in
theorem folkmootref15_Same.calls (k : Nat) (A0 : Option Addr) (c0 : Nat) (l0 : List (S32)) (A1 : Option Addr) (c1 : Nat) (l1 : List (S32)) (r : Bool) (w : World) (hr0 : Kd.C k32 w A0 l0.length l0) (hc0 : l0.length ≤ c0) (hr1 : Kd.C k32 w A1 l1.length l1) (hc1 : l1.length ≤ c1) (h : folkmootref15_Same.f k l0 l1 = some r) :
  Calls Try.prog 27 #[.slice A0 l0.length c0, .slice A1 l1.length c1] w fun e w' => e = .returned (.bool r) ∧ Drawn0 w w' := by
 have hu27 := Try.underlying27
 have HR0 := Aside0.mk hr0
 have HC0 := Aside0.mk hc0
 clear hr0 hc0
 have HR1 := Aside0.mk hr1
 have HC1 := Aside0.mk hc1
 clear hr1 hc1
 have H : (if (l0.length : Int) = (l1.length : Int) then (folkmootref15_Same.l0 k l0 l1 0) else (some false)) = some r := h
 clear h
 by_cases c3 : (l0.length : Int) = (l1.length : Int)
 ·
  rw [if_pos c3] at H
  have c3b0 : ((l0.length : Int) == (l1.length : Int)) = true := beq_iff_eq.mpr c3
  have c3b1 : ((l0.length : Int) != (l1.length : Int)) = false := bne_eq_false_iff_eq.mpr c3
  have c3b2 : (l0.length == l1.length) = true := by first | simpa using c3 | (simp at c3 ⊢; omega)
  clear c3
  have H' := Aside0.mk H
  clear H
  go_enter Try.func27, Try.ntmps27
  go_wp2
  repeat (go_quiet (fail); try go_wp2)
  go_loopg [5] k (fun kq v5 w' => ∃ (x5_1 : Int), v5 = .int .i64 x5_1 ∧ Aside0 (folkmootref15_Same.l0 kq l0 l1 x5_1 = some r) ∧ Aside0 (kq ≤ k) ∧ Drawn0 w w')
  case atStart => exact ⟨(0), (by first | rfl | (simp; done) | (simp [*]; done)), H', ⟨Nat.le_refl _⟩, by repeat (first | exact Drawn0.refl _ | apply Drawn0.step)⟩
  case round =>
   clear H'
   try clear c1
   try clear c2
   try clear p2
   try clear c3
   try clear c3b0
   try clear c3b1
   try clear c3b2
   obtain ⟨x5_1, rfl, HA, HK1, ⟨m1, rfl⟩⟩ := hrel
   cases gk with
   | zero => exact absurd HA.out (by simp [folkmootref15_Same.l0])
   | succ k1 =>
    have H := HA.out
    clear HA
    simp only [folkmootref15_Same.l0] at H
    by_cases c4 : x5_1 < (l0.length : Int)
    ·
     rw [if_pos c4] at H
     have c4b0 : decide (x5_1 < (l0.length : Int)) = true := decide_eq_true c4
     clear c4
     by_cases c5 : 0 ≤ x5_1
     ·
      rw [if_pos c5] at H
      have c5b0 : decide (0 ≤ x5_1) = true := decide_eq_true c5
      clear c5
      by_cases c6 : x5_1 < (l1.length : Int)
      ·
       rw [if_pos c6] at H
       have c6b0 : decide (x5_1 < (l1.length : Int)) = true := decide_eq_true c6
       clear c6
       by_cases c7 : ((!(((rd_T32 l0 x5_1).f0.f0.f0) == ((rd_T32 l1 x5_1).f0.f0.f0)) || (!(((rd_T32 l0 x5_1).f0.f0.f1) == ((rd_T32 l1 x5_1).f0.f0.f1)))) || (!(((rd_T32 l0 x5_1).f0.f1) == ((rd_T32 l1 x5_1).f0.f1)) || (!(((rd_T32 l0 x5_1).f0.f2) == ((rd_T32 l1 x5_1).f0.f2))))) = true
       ·
        rw [if_pos c7] at H
        have c7b0 : ((!(((rd_T32 l0 x5_1).f0.f0.f0) == ((rd_T32 l1 x5_1).f0.f0.f0)) || (!(((rd_T32 l0 x5_1).f0.f0.f1) == ((rd_T32 l1 x5_1).f0.f0.f1)))) || (!(((rd_T32 l0 x5_1).f0.f1) == ((rd_T32 l1 x5_1).f0.f1)) || (!(((rd_T32 l0 x5_1).f0.f2) == ((rd_T32 l1 x5_1).f0.f2))))) = true := c7
        clear c7
        obtain rfl := Option.some.inj H
        have p248 : 0 ≤ (x5_1 : Int) := of_decide_eq_true zs_
        have q248 : x5_1 < (l0.length : Int) := of_decide_eq_true zs_
        obtain ⟨ad248, A248_4, c248_4, e248, hx248_0, hx248_1, hx248_2, hx248_3, hx248_4, hl248_4, hi248_4⟩ := at_T32 HR0.out x5_1 p248 q248
        cases e248
        have HR248_4 := Aside0.mk hi248_4
        have HC248_4 := Aside0.mk hl248_4
        clear hi248_4 hl248_4
        replace p248 := eq_true p248
        replace q248 := eq_true q248
        have p249 : 0 ≤ (x5_1 : Int) := of_decide_eq_true zs_
        have q249 : x5_1 < (l1.length : Int) := of_decide_eq_true zs_
        obtain ⟨ad249, A249_4, c249_4, e249, hx249_0, hx249_1, hx249_2, hx249_3, hx249_4, hl249_4, hi249_4⟩ := at_T32 HR1.out x5_1 p249 q249
        cases e249
        have HR249_4 := Aside0.mk hi249_4
        have HC249_4 := Aside0.mk hl249_4
        clear hi249_4 hl249_4
        replace p249 := eq_true p249
        replace q249 := eq_true q249
        go_wp2
        repeat (go_quiet (fail); try go_wp2)
        go_ret
        exact ⟨by first | rfl | (simp; done) | (simp [*]; done), by repeat (first | exact Drawn0.refl _ | apply Drawn0.step)⟩
       ·
        rw [if_neg c7] at H
        have c7b0 : ((!(((rd_T32 l0 x5_1).f0.f0.f0) == ((rd_T32 l1 x5_1).f0.f0.f0)) || (!(((rd_T32 l0 x5_1).f0.f0.f1) == ((rd_T32 l1 x5_1).f0.f0.f1)))) || (!(((rd_T32 l0 x5_1).f0.f1) == ((rd_T32 l1 x5_1).f0.f1)) || (!(((rd_T32 l0 x5_1).f0.f2) == ((rd_T32 l1 x5_1).f0.f2))))) = false := by simpa using c7
        clear c7
        by_cases c8 : (strOfNums ((rd_T32 l0 x5_1).f1)).toList = (strOfNums ((rd_T32 l1 x5_1).f1)).toList
        ·
         rw [if_pos c8] at H
         have c8b0 : ((strOfNums ((rd_T32 l0 x5_1).f1)).toList == (strOfNums ((rd_T32 l1 x5_1).f1)).toList) = true := beq_iff_eq.mpr c8
         have c8b1 : ((strOfNums ((rd_T32 l0 x5_1).f1)).toList != (strOfNums ((rd_T32 l1 x5_1).f1)).toList) = false := bne_eq_false_iff_eq.mpr c8
         clear c8
         have H' := Aside0.mk H
         clear H
         have p248 : 0 ≤ (x5_1 : Int) := of_decide_eq_true zs_
         have q248 : x5_1 < (l0.length : Int) := of_decide_eq_true zs_
         obtain ⟨ad248, A248_4, c248_4, e248, hx248_0, hx248_1, hx248_2, hx248_3, hx248_4, hl248_4, hi248_4⟩ := at_T32 HR0.out x5_1 p248 q248
         cases e248
         have HR248_4 := Aside0.mk hi248_4
         have HC248_4 := Aside0.mk hl248_4
         clear hi248_4 hl248_4
         replace p248 := eq_true p248
         replace q248 := eq_true q248
         have p249 : 0 ≤ (x5_1 : Int) := of_decide_eq_true zs_
         have q249 : x5_1 < (l1.length : Int) := of_decide_eq_true zs_
         obtain ⟨ad249, A249_4, c249_4, e249, hx249_0, hx249_1, hx249_2, hx249_3, hx249_4, hl249_4, hi249_4⟩ := at_T32 HR1.out x5_1 p249 q249
         cases e249
         have HR249_4 := Aside0.mk hi249_4
         have HC249_4 := Aside0.mk hl249_4
         clear hi249_4 hl249_4
         replace p249 := eq_true p249
         replace q249 := eq_true q249
         have p250 : 0 ≤ (x5_1 : Int) := of_decide_eq_true zs_
         have q250 : x5_1 < (l0.length : Int) := of_decide_eq_true zs_
         obtain ⟨ad250, A250_4, c250_4, e250, hx250_0, hx250_1, hx250_2, hx250_3, hx250_4, hl250_4, hi250_4⟩ := at_T32 HR0.out x5_1 p250 q250
         obtain rfl : ad248 = ad250 := (by injection e250)
         have HR250_4 := Aside0.mk hi250_4
         have HC250_4 := Aside0.mk hl250_4
         clear hi250_4 hl250_4
         replace p250 := eq_true p250
         replace q250 := eq_true q250
         have ea_ := Option.some.inj (hx248_4.symm.trans hx250_4)
         injection ea_ with ea_ en_ ec_
         subst ea_
         subst ec_
         clear en_
         have hcv9 := Kd.C_string (P := Try.prog) (A := A248_4) (c := c248_4) Try.underlying30 Try.underlying5 Try.underlying9 HR250_4.out
         have hcv9d := fun n_ : Nat => Kd.C_string (P := Try.prog) (A := A248_4) (c := c248_4) Try.underlying30 Try.underlying5 Try.underlying9 (Kd.C_drewN (HR250_4.out) n_)
         have p251 : 0 ≤ (x5_1 : Int) := of_decide_eq_true zs_
         have q251 : x5_1 < (l1.length : Int) := of_decide_eq_true zs_
         obtain ⟨ad251, A251_4, c251_4, e251, hx251_0, hx251_1, hx251_2, hx251_3, hx251_4, hl251_4, hi251_4⟩ := at_T32 HR1.out x5_1 p251 q251
         obtain rfl : ad249 = ad251 := (by injection e251)
         have HR251_4 := Aside0.mk hi251_4
         have HC251_4 := Aside0.mk hl251_4
         clear hi251_4 hl251_4
         replace p251 := eq_true p251
         replace q251 := eq_true q251
         have ea_ := Option.some.inj (hx249_4.symm.trans hx251_4)
         injection ea_ with ea_ en_ ec_
         subst ea_
         subst ec_
         clear en_
         have hcv10 := Kd.C_string (P := Try.prog) (A := A249_4) (c := c249_4) Try.underlying30 Try.underlying5 Try.underlying9 HR251_4.out
         have hcv10d := fun n_ : Nat => Kd.C_string (P := Try.prog) (A := A249_4) (c := c249_4) Try.underlying30 Try.underlying5 Try.underlying9 (Kd.C_drewN (HR251_4.out) n_)
         go_wp2
         repeat (go_quiet (fail); try go_wp2)
         go_roundg k1
         case measure => have := HK1.out; omega
         case rel => exact ⟨(wrap64 (x5_1 + 1)), (by first | rfl | (simp; done) | (simp [*]; done)), H', ⟨by have := HK1.out; omega⟩, by repeat (first | exact Drawn0.refl _ | apply Drawn0.step)⟩
        ·
         rw [if_neg c8] at H
         have c8b0 : ((strOfNums ((rd_T32 l0 x5_1).f1)).toList == (strOfNums ((rd_T32 l1 x5_1).f1)).toList) = false := beq_eq_false_iff_ne.mpr c8
         have c8b1 : ((strOfNums ((rd_T32 l0 x5_1).f1)).toList != (strOfNums ((rd_T32 l1 x5_1).f1)).toList) = true := bne_iff_ne.mpr c8
         obtain rfl := Option.some.inj H
         have p248 : 0 ≤ (x5_1 : Int) := of_decide_eq_true zs_
         have q248 : x5_1 < (l0.length : Int) := of_decide_eq_true zs_
         obtain ⟨ad248, A248_4, c248_4, e248, hx248_0, hx248_1, hx248_2, hx248_3, hx248_4, hl248_4, hi248_4⟩ := at_T32 HR0.out x5_1 p248 q248
         cases e248
         have HR248_4 := Aside0.mk hi248_4
         have HC248_4 := Aside0.mk hl248_4
         clear hi248_4 hl248_4
         replace p248 := eq_true p248
         replace q248 := eq_true q248
         have p249 : 0 ≤ (x5_1 : Int) := of_decide_eq_true zs_
         have q249 : x5_1 < (l1.length : Int) := of_decide_eq_true zs_
         obtain ⟨ad249, A249_4, c249_4, e249, hx249_0, hx249_1, hx249_2, hx249_3, hx249_4, hl249_4, hi249_4⟩ := at_T32 HR1.out x5_1 p249 q249
         cases e249
         have HR249_4 := Aside0.mk hi249_4
         have HC249_4 := Aside0.mk hl249_4
         clear hi249_4 hl249_4
         replace p249 := eq_true p249
         replace q249 := eq_true q249
         have p250 : 0 ≤ (x5_1 : Int) := of_decide_eq_true zs_
         have q250 : x5_1 < (l0.length : Int) := of_decide_eq_true zs_
         obtain ⟨ad250, A250_4, c250_4, e250, hx250_0, hx250_1, hx250_2, hx250_3, hx250_4, hl250_4, hi250_4⟩ := at_T32 HR0.out x5_1 p250 q250
         obtain rfl : ad248 = ad250 := (by injection e250)
         have HR250_4 := Aside0.mk hi250_4
         have HC250_4 := Aside0.mk hl250_4
         clear hi250_4 hl250_4
         replace p250 := eq_true p250
         replace q250 := eq_true q250
         have ea_ := Option.some.inj (hx248_4.symm.trans hx250_4)
         injection ea_ with ea_ en_ ec_
         subst ea_
         subst ec_
         clear en_
         have hcv11 := Kd.C_string (P := Try.prog) (A := A248_4) (c := c248_4) Try.underlying30 Try.underlying5 Try.underlying9 HR250_4.out
         have hcv11d := fun n_ : Nat => Kd.C_string (P := Try.prog) (A := A248_4) (c := c248_4) Try.underlying30 Try.underlying5 Try.underlying9 (Kd.C_drewN (HR250_4.out) n_)
         have p251 : 0 ≤ (x5_1 : Int) := of_decide_eq_true zs_
         have q251 : x5_1 < (l1.length : Int) := of_decide_eq_true zs_
         obtain ⟨ad251, A251_4, c251_4, e251, hx251_0, hx251_1, hx251_2, hx251_3, hx251_4, hl251_4, hi251_4⟩ := at_T32 HR1.out x5_1 p251 q251
         obtain rfl : ad249 = ad251 := (by injection e251)
         have HR251_4 := Aside0.mk hi251_4
         have HC251_4 := Aside0.mk hl251_4
         clear hi251_4 hl251_4
         replace p251 := eq_true p251
         replace q251 := eq_true q251
         have ea_ := Option.some.inj (hx249_4.symm.trans hx251_4)
         injection ea_ with ea_ en_ ec_
         subst ea_
         subst ec_
         clear en_
         have hcv12 := Kd.C_string (P := Try.prog) (A := A249_4) (c := c249_4) Try.underlying30 Try.underlying5 Try.underlying9 HR251_4.out
         have hcv12d := fun n_ : Nat => Kd.C_string (P := Try.prog) (A := A249_4) (c := c249_4) Try.underlying30 Try.underlying5 Try.underlying9 (Kd.C_drewN (HR251_4.out) n_)
         go_wp2
         repeat (go_quiet (fail); try go_wp2)
         go_ret
         exact ⟨by first | rfl | (simp; done) | (simp [*]; done), by repeat (first | exact Drawn0.refl _ | apply Drawn0.step)⟩
      ·
       rw [if_neg c6] at H
       exact absurd H (by simp)
     ·
      rw [if_neg c5] at H
      exact absurd H (by simp)
    ·
     rw [if_neg c4] at H
     have c4b0 : decide (x5_1 < (l0.length : Int)) = false := decide_eq_false c4
     clear c4
     obtain rfl := Option.some.inj H
     go_wp2
     repeat (go_quiet (fail); try go_wp2)
     go_ret
     exact ⟨by first | rfl | (simp; done) | (simp [*]; done), by repeat (first | exact Drawn0.refl _ | apply Drawn0.step)⟩
 ·
  rw [if_neg c3] at H
  have c3b0 : ((l0.length : Int) == (l1.length : Int)) = false := beq_eq_false_iff_ne.mpr c3
  have c3b1 : ((l0.length : Int) != (l1.length : Int)) = true := bne_iff_ne.mpr c3
  have c3b2 : (l0.length == l1.length) = false := by first | simpa using c3 | (simp at c3 ⊢; omega)
  obtain rfl := Option.some.inj H
  go_enter Try.func27, Try.ntmps27
  go_wp2
  repeat (go_quiet (fail); try go_wp2)
  go_ret
  exact ⟨by first | rfl | (simp; done) | (simp [*]; done), by repeat (first | exact Drawn0.refl _ | apply Drawn0.step)⟩
end Go.Proofs.Ytioooiflpabngaa.PAll
end
section
namespace Go.Proofs.Ytioooiflpabngaa.PAll
open Go.RowKit Go.Proofs.YtioooiflpabngaaW.PrintWords Go.Proofs.YtioooiflpabngaaW.PrintLast Go.Proofs.YtioooiflpabngaaW.PrintMore
set_option linter.unusedVariables false
set_option linter.unusedSimpArgs false
def Rd (w : World) (g : Nat) (l : List Int) (bad : Bool) : Prop := ∃ A c, w.heap[g]? = some (.cells #[.slice A l.length c, .bool bad] 143 (0, 0)) ∧ Kd.C (Kd.int .u8) w A l.length l ∧ l.length ≤ c ∧ ∀ ad, A = some ad → 0 < l.length → ad.block < g
theorem C_ne {w : World} {g : Nat} {cs : Array Value} {t : TypeId} {A : Option Addr} {n : Nat} {xs : List Int} (h : Kd.C (Kd.int .u8) w A n xs) (hb : w.heap[g]? = some (.cells cs t (0, 0))) (hc : ∀ (i : Nat) (x : Int), cs[i]? ≠ some (.int .u8 x)) : ∀ ad, A = some ad → 0 < n → ad.block ≠ g := by
  intro ad e hn eb
  obtain ⟨ad', e', hx⟩ := Kd.at_int h 0 (by omega) (by omega)
  rw [e] at e'
  cases e'
  simp only [Int.toNat_zero, Addr.add_zero'] at hx
  obtain ⟨b, o, p⟩ := ad
  simp only at eb
  subst eb
  have hx2 := hx
  cases p with
  | none => rw [blk_cell hb o] at hx2; exact hc _ _ hx2
  | some p => simp [World.cell?, hb] at hx2
theorem C_put {w w' : World} {g : Nat} {cs : Array Value} {t : TypeId} {A : Option Addr} {n : Nat} {xs : List Int} (h : Kd.C (Kd.int .u8) w A n xs) (hb : w.heap[g]? = some (.cells cs t (0, 0))) (hc : ∀ (i : Nat) (x : Int), cs[i]? ≠ some (.int .u8 x)) (hg : w.grownBy w' (some g)) : Kd.C (Kd.int .u8) w' A n xs :=
  Kd.C_keep (0 : Int) (h1 := fun _ => rfl) h (g := g) ⟨hg.size, fun i hi hne _ => hg.block i hi (fun e => hne (by cases e; rfl))⟩ (C_ne h hb hc)
theorem grown_set (w : World) (g i : Nat) (u : Value) : w.grownBy (w.setCell ⟨g, i, none⟩ u) (some g) :=
  ⟨rfl, rfl, rfl, by simp [World.setCell], fun j hj hne => Below.heap_setCell w _ u j (fun e => hne (by rw [e]))⟩
theorem grown_trans {a w w' : World} {row : Option Nat} (h : a.grownBy w row) (k : w.grownBy w' row) : a.grownBy w' row :=
  ⟨k.os.trans h.os, k.tape.trans h.tape, k.output.trans h.output, Nat.le_trans h.size k.size, fun i hi hr => (k.block i (Nat.lt_of_lt_of_le hi h.size) hr).trans (h.block i hi hr)⟩
theorem rd_cells (A : Option Addr) (n c : Nat) (v : Value) (hv : ∀ x, v ≠ .int .u8 x) (i : Nat) (x : Int) : (#[Value.slice A n c, v] : Array Value)[i]? ≠ some (.int .u8 x) := by
  rcases i with _ | _ | i
  · simp
  · simpa using hv x
  · simp
theorem Rd.cut {w : World} {g : Nat} {l : List Int} {A : Option Addr} {c : Nat} {bad : Bool} (hb : w.heap[g]? = some (.cells #[.slice A l.length c, .bool bad] 143 (0, 0))) (hC : Kd.C (Kd.int .u8) w A l.length l) (hc : l.length ≤ c) (hlo : ∀ ad, A = some ad → 0 < l.length → ad.block < g) (m : Nat) (hm : m ≤ l.length) :
    Rd (w.setCell ⟨g, 0, none⟩ (.slice (if c = m then A else A.map (·.add m)) (l.length - m) (c - m))) g (l.drop m) bad ∧ w.grownBy (w.setCell ⟨g, 0, none⟩ (.slice (if c = m then A else A.map (·.add m)) (l.length - m) (c - m))) (some g) := by
  refine ⟨⟨(if c = m then A else A.map (·.add m)), c - m, ?_, ?_, by rw [List.length_drop]; omega, ?_⟩, grown_set _ _ _ _⟩
  · rw [List.length_drop]
    exact (blk_set hb 0 _).trans rfl
  · have h1 := C_put hC hb (rd_cells A _ c _ (fun _ h => by cases h)) (grown_set w g 0 (.slice (if c = m then A else A.map (·.add m)) (l.length - m) (c - m)))
    have h2 := Kd.C_drop (m := m) (c := c) h1 hm hc
    have e : m * (Kd.int .u8).sz = m := Nat.mul_one m
    rw [e] at h2
    exact h2
  · intro ad e hp
    rw [List.length_drop] at hp
    split at e
    · exact hlo ad e (by omega)
    · cases A with
      | none => cases e
      | some a0 =>
        cases e
        have := hlo a0 rfl (by omega)
        unfold Addr.add
        split <;> exact this
theorem Rd.fail {w : World} {g : Nat} {l : List Int} {bad : Bool} (h : Rd w g l bad) : Rd (w.setCell ⟨g, 1, none⟩ (.bool true)) g l true ∧ w.grownBy (w.setCell ⟨g, 1, none⟩ (.bool true)) (some g) := by
  obtain ⟨A, c, hb, hC, hc, hlo⟩ := h
  exact ⟨⟨A, c, (blk_set hb 1 _).trans rfl, C_put hC hb (rd_cells A _ c _ (fun _ h => by cases h)) (grown_set _ _ _ _), hc, hlo⟩, grown_set _ _ _ _⟩
theorem C_low {w w' : World} {A : Option Addr} {n : Nat} {xs : List Int} {B : Nat} (h : Kd.C (Kd.int .u8) w A n xs) (hlo : ∀ ad, A = some ad → 0 < n → ad.block < B) (hb : ∀ k, k < B → w'.heap[k]? = w.heap[k]?) : Kd.C (Kd.int .u8) w' A n xs := by
  refine Kd.C_of_reads (enc := Value.int .u8) (d := (0 : Int)) (h1 := fun _ => rfl) ?_
  have h2 := Kd.reads_of_C (enc := Value.int .u8) (d := (0 : Int)) (h1 := fun _ => rfl) h
  refine ⟨h2.1, h2.2.1, fun hp => ?_⟩
  obtain ⟨ad, e, hx⟩ := h2.2.2 hp
  refine ⟨ad, e, fun j hj => ?_⟩
  have hl := hlo ad e hp
  rw [← hx j hj]
  refine World.cell?_of_block (hb _ ?_)
  unfold Addr.add
  split <;> exact hl
theorem Rd.keep {w w' : World} {g : Nat} {l : List Int} {bad : Bool} (h : Rd w g l bad) (hb : Below (g + 1) w w') : Rd w' g l bad := by
  obtain ⟨A, c, hb0, hC, hc, hlo⟩ := h
  exact ⟨A, c, (hb.block g (Nat.lt_succ_self _)).trans hb0, C_low hC hlo (fun k hk => hb.block k (by omega)), hc, hlo⟩
theorem Rd.lt {w : World} {g : Nat} {l : List Int} {bad : Bool} (h : Rd w g l bad) : g < w.heap.size := by
  obtain ⟨A, c, hb0, _⟩ := h
  exact blk_lt hb0
theorem grown_alloc {a w : World} {g : Nat} (h : a.grownBy w (some g)) (o : Obj) : a.grownBy (w.alloc o) (some g) :=
  grown_trans h (World.grownBy_alloc w o _)
theorem grown_drew {a w : World} {r : Option Nat} (h : a.grownBy w r) : a.grownBy w.drew r := ⟨h.os, h.tape, h.output, h.size, h.block⟩
theorem un_drew {a w : World} {r : Option Nat} (h : a.drew.grownBy w r) : a.grownBy w r := ⟨h.os, h.tape, h.output, h.size, h.block⟩
theorem cell_alloc {w : World} {a : Addr} {v : Value} (h : w.cell? a = some v) (o : Obj) : (w.alloc o).cell? a = some v :=
  (World.cell?_of_block (Below.heap_alloc w o _ (World.block_lt_of_cell? w a h))).trans h
theorem cell_drew {w : World} {a : Addr} {v : Value} (h : w.cell? a = some v) : w.drew.cell? a = some v := h
theorem cell_far {w : World} {a : Addr} {v : Value} (h : w.cell? a = some v) {p : Addr} (hp : a.block ≠ p.block) (u : Value) : (w.setCell p u).cell? a = some v :=
  (World.cell?_of_block (Below.heap_setCell w p u _ hp)).trans h
theorem grown_new {a w : World} {g : Nat} (h : a.grownBy w (some g)) {p : Addr} (hp : a.heap.size ≤ p.block) (u : Value) : a.grownBy (w.setCell p u) (some g) :=
  ⟨h.os, h.tape, h.output, Nat.le_trans h.size (by simp [World.setCell]), fun k hk hn => (Below.heap_setCell w p u k (by omega)).trans (h.block k hk hn)⟩
theorem grown_below {a w w' : World} {g : Nat} (h : a.grownBy w (some g)) (hb : Below w.heap.size w w') : a.grownBy w' (some g) :=
  grown_trans h ⟨hb.os, hb.tape, hb.output, hb.size, fun k hk _ => hb.block k hk⟩
theorem drop_rd (l : List Int) (k : Nat) (h : k < l.length) : l.drop k = rd l (k : Int) :: l.drop (k + 1) := by
  rw [List.drop_eq_getElem_cons h]
  simp [rd, h]
set_option maxHeartbeats 4000000 in
set_option maxRecDepth 100000 in
theorem read_Bad (g : Nat) (l : List Int) (bad : Bool) (w : World) (h : Rd w g l bad) :
    Calls Try.prog 120 #[.pointer (some ⟨g, 0, none⟩)] w fun e w' => e = .returned (.bool bad) ∧ w' = w := by
  obtain ⟨A, c, hb, hC, hc, hlo⟩ := h
  have h1 : w.cell? ⟨g, 1, none⟩ = some (.bool bad) := (blk_cell hb 1).trans rfl
  clear hC hb
  go_enter Try.func120, Try.ntmps120
  go_wp2
  go_ret
  exact ⟨rfl, rfl⟩
set_option maxHeartbeats 4000000 in
set_option maxRecDepth 100000 in
theorem read_Left (g : Nat) (l : List Int) (bad : Bool) (w : World) (h : Rd w g l bad) :
    Calls Try.prog 96 #[.pointer (some ⟨g, 0, none⟩)] w fun e w' => e = .returned (.int .i64 (if bad then 0 else l.length)) ∧ w' = w := by
  obtain ⟨A, c, hb, hC, hc, hlo⟩ := h
  have h0 : w.cell? ⟨g, 0, none⟩ = some (.slice A l.length c) := (blk_cell hb 0).trans rfl
  have h1 : w.cell? ⟨g, 1, none⟩ = some (.bool bad) := (blk_cell hb 1).trans rfl
  clear hC hb
  cases bad
  · go_enter Try.func96, Try.ntmps96
    go_wp2
    go_ret
    exact ⟨rfl, rfl⟩
  · go_enter Try.func96, Try.ntmps96
    go_wp2
    go_ret
    exact ⟨rfl, rfl⟩
set_option maxHeartbeats 4000000 in
set_option maxRecDepth 100000 in
theorem read_fail (g : Nat) (l : List Int) (bad : Bool) (w : World) (h : Rd w g l bad) :
    Calls Try.prog 122 #[.pointer (some ⟨g, 0, none⟩)] w fun e w' => e = .returned (.tuple #[]) ∧ w' = w.setCell ⟨g, 1, none⟩ (.bool true) := by
  obtain ⟨A, c, hb, hC, hc, hlo⟩ := h
  have h1 : w.cell? ⟨g, 1, none⟩ = some (.bool bad) := (blk_cell hb 1).trans rfl
  have hf := blk_frozen hb 1
  clear hC hb
  go_enter Try.func122, Try.ntmps122
  go_wp2
  go_end0
  exact ⟨rfl, rfl⟩
set_option maxHeartbeats 4000000 in
set_option maxRecDepth 100000 in
theorem read_New (A : Option Addr) (l : List Int) (c : Nat) (w : World) :
    Calls Try.prog 94 #[.slice A l.length c] w fun e w' => e = .returned (.pointer (some ⟨w.heap.size, 0, none⟩)) ∧ w' = w.alloc (.cells #[.slice A l.length c, .bool false] 143) := by
  go_enter Try.func94, Try.ntmps94
  go_wp2
  go_ret
  exact ⟨rfl, rfl⟩
end Go.Proofs.Ytioooiflpabngaa.PAll
end
section
namespace Go.Proofs.Ytioooiflpabngaa.PAll
open Go.RowKit Go.Proofs.YtioooiflpabngaaW.PrintWords Go.Proofs.YtioooiflpabngaaW.PrintLast Go.Proofs.YtioooiflpabngaaW.PrintMore
set_option linter.unusedVariables false
set_option linter.unusedSimpArgs false
def uAcc (i : Nat) (n b : Int) : Int := bits .or .u64 n (IntKind.u64.wrap (IntKind.u64.wrap (bits .and .u8 b 127) * 2 ^ (7 * i)))
def uGo : Nat → Int → List Int → Option (Int × List Int)
  | _, _, [] => none
  | i, n, b :: t => if (i = 9 ∧ b > 1) ∨ (i > 0 ∧ b = 0) then none else if b < 128 then some (uAcc i n b, t) else uGo (i + 1) (uAcc i n b) t
def uRd (l : List Int) (bad : Bool) : Int × List Int × Bool := if bad then (0, l, true) else match uGo 0 0 l with | none => (0, l, true) | some (n, t) => (n, t, false)
set_option maxHeartbeats 4000000 in
set_option maxRecDepth 100000 in
theorem read_Uint (g : Nat) (l : List Int) (bad : Bool) (w : World) (h : Rd w g l bad) (hl : l.length < 4398046511104) :
    Calls Try.prog 121 #[.pointer (some ⟨g, 0, none⟩)] w fun e w' => e = .returned (.int .u64 (uRd l bad).1) ∧ Rd w' g (uRd l bad).2.1 (uRd l bad).2.2 ∧ w.grownBy w' (some g) := by
  have HR := Aside0.mk h
  obtain ⟨A, c, hb, hC, hc, hlo⟩ := h
  have h0 : w.cell? ⟨g, 0, none⟩ = some (.slice A l.length c) := (blk_cell hb 0).trans rfl
  have h1 : w.cell? ⟨g, 1, none⟩ = some (.bool bad) := (blk_cell hb 1).trans rfl
  have hf0 := blk_frozen hb 0
  have hf1 := blk_frozen hb 1
  have HC := Aside0.mk hC
  have HB := Aside0.mk hb
  have HCC := Aside0.mk hc
  have HLO := Aside0.mk hlo
  have HL := Aside0.mk hl
  clear hC hb hc hl hlo
  cases bad
  · go_enter Try.func121, Try.ntmps121
    go_wp2
    go_loopw [3, 19] (fun nv i wr => ∃ (k : Nat) (n : Int), k ≤ l.length ∧ k ≤ 9 ∧ i = .int .i64 k ∧ nv = .int .u64 n ∧ wr = w ∧ Aside0 (uGo 0 0 l = uGo k n (l.drop k)))
      (fun _ i _ => l.length - (intOf i).toNat)
    case atStart => exact ⟨0, 0, Nat.zero_le _, by omega, rfl, rfl, rfl, ⟨rfl⟩⟩
    case round =>
      obtain ⟨k, n, hk, hk9, rfl, rfl, rfl, HU⟩ := hrel
      by_cases hlt : k < l.length
      · have hlt' : (k : Int) < (l.length : Int) := by omega
        have hz2 := HL.out
        obtain ⟨ad, e, hx⟩ := Kd.at_int HC.out (k : Int) (by omega) (by omega)
        subst e
        rw [Int.toNat_natCast] at hx
        have hd := drop_rd l k hlt
        generalize rd l (k : Int) = b at hx hd
        have hu := HU.out
        rw [hd] at hu
        have HBRK := Aside0.mk (show (k = 9 ∧ b > 1 ∨ k > 0 ∧ b = 0) → uRd l false = (0, l, true) from fun h => by simp only [uRd, hu, uGo, if_pos h]; rfl)
        have HRET := Aside0.mk (show ¬(k = 9 ∧ b > 1 ∨ k > 0 ∧ b = 0) → b < 128 → uRd l false = (uAcc k n b, l.drop (k + 1), false) from fun h h2 => by simp only [uRd, hu, uGo, if_neg h, if_pos h2]; rfl)
        have HNXT := Aside0.mk (show ¬(k = 9 ∧ b > 1 ∨ k > 0 ∧ b = 0) → ¬ b < 128 → uGo 0 0 l = uGo (k + 1) (uAcc k n b) (l.drop (k + 1)) from fun h h2 => by rw [hu]; simp only [uGo, if_neg h, if_neg h2])
        clear hu hd HU
        have HCUT := Aside0.mk (Rd.cut HB.out HC.out HCC.out HLO.out (k + 1) (by omega))
        by_cases hb0 : b = 0
        · subst hb0
          go_wp2
          all_goals try (exfalso; omega)
          all_goals try (go_ret; rw [HBRK.out (by first | omega | (simp; omega))]; exact ⟨rfl, HR.out.fail⟩)
          all_goals try (go_ret; rw [HRET.out (by first | omega | (simp; omega)) (by omega)]; have h7 := HCUT.out; refine ⟨rfl, ?_⟩; first | (rw [if_pos (by omega)] at h7; first | exact h7 | simpa [*] using h7) | (rw [if_neg (by omega)] at h7; first | exact h7 | simpa [Addr.add, *] using h7))
        · have hbq : (b == 0) = false := by simpa using hb0
          go_wp2
          all_goals try (exfalso; omega)
          all_goals try (go_ret; rw [HBRK.out (by first | omega | (simp; omega))]; exact ⟨rfl, HR.out.fail⟩)
          all_goals try (go_ret; rw [HRET.out (by first | omega | (simp; omega)) (by omega)]; have h7 := HCUT.out; refine ⟨rfl, ?_⟩; first | (rw [if_pos (by omega)] at h7; first | exact h7 | simpa [*] using h7) | (rw [if_neg (by omega)] at h7; first | exact h7 | simpa [Addr.add, *] using h7))
          all_goals try exact ⟨⟨k + 1, uAcc k n b, by omega, by omega, by simp, rfl, trivial, ⟨HNXT.out (by omega) (by omega)⟩⟩, by simp [intOf]; omega⟩
          all_goals go_ret
          all_goals rw [HRET.out (by omega) (by omega)]
          all_goals have h7 := HCUT.out
          all_goals obtain rfl : k = 9 := by omega
          all_goals refine ⟨rfl, ?_⟩
          · subst c
            rw [if_pos (by omega)] at h7
            exact h7
          · rw [if_neg (by omega)] at h7
            exact h7
      · obtain rfl : k = l.length := by omega
        have HBRK := Aside0.mk (show uRd l false = (0, l, true) from by simp only [uRd, HU.out, List.drop_length, uGo]; rfl)
        clear HU
        go_wp2
        go_ret
        rw [HBRK.out]
        exact ⟨rfl, HR.out.fail⟩
  · go_enter Try.func121, Try.ntmps121
    go_wp2
    go_ret
    exact ⟨rfl, HR.out, World.grownBy.refl _ _⟩
end Go.Proofs.Ytioooiflpabngaa.PAll
end
section
namespace Go.Proofs.Ytioooiflpabngaa.PAll
open Go.RowKit Go.Proofs.YtioooiflpabngaaW.PrintWords Go.Proofs.YtioooiflpabngaaW.PrintLast Go.Proofs.YtioooiflpabngaaW.PrintMore
set_option linter.unusedVariables false
set_option linter.unusedSimpArgs false
def iRd (l : List Int) (bad : Bool) (most : Int) : Int × List Int × Bool := if (uRd l bad).2.2 = true ∨ most < (uRd l bad).1 then (0, (uRd l bad).2.1, true) else (wrap64 (uRd l bad).1, (uRd l bad).2.1, false)
theorem uRd_len (l : List Int) (bad : Bool) : (uRd l bad).2.1.length ≤ l.length := by
  have h : ∀ (l : List Int) (i : Nat) (n : Int) (m : Int) (t : List Int), uGo i n l = some (m, t) → t.length ≤ l.length := by
    intro l
    induction l with
    | nil => intro i n m t h; cases h
    | cons b l ih =>
      intro i n m t h
      simp only [uGo] at h
      split at h
      · cases h
      · split at h
        · cases h
          simp
        · have := ih _ _ _ _ h
          simp
          omega
  unfold uRd
  split
  · exact Nat.le_refl _
  · split
    · exact Nat.le_refl _
    · next h2 => exact h _ _ _ _ _ h2
set_option maxHeartbeats 4000000 in
set_option maxRecDepth 100000 in
theorem read_Int (g : Nat) (l : List Int) (bad : Bool) (most : Int) (w : World) (h : Rd w g l bad) (hl : l.length < 4398046511104) (h0m : 0 ≤ most) (hm : most < 4398046511104) :
    Calls Try.prog 97 #[.pointer (some ⟨g, 0, none⟩), .int .i64 most] w fun e w' => e = .returned (.int .i64 (iRd l bad most).1) ∧ Rd w' g (iRd l bad most).2.1 (iRd l bad most).2.2 ∧ w.grownBy w' (some g) := by
  have HR := Aside0.mk h
  have HL := Aside0.mk hl
  clear h hl
  have hcall := read_Uint g l bad w HR.out HL.out
  obtain ⟨⟨n, t, b⟩, hu⟩ : ∃ u, uRd l bad = u := ⟨_, rfl⟩
  rw [hu] at hcall
  simp only at hcall
  have HU := Aside0.mk hu
  clear hu
  have HF := Aside0.mk (fun (w2 w3 : World) (h : Rd w2 g t b) (hg : w.grownBy w2 (some g)) (e : w3 = w2.setCell ⟨g, 1, none⟩ (.bool true)) => (show Rd w3 g t true ∧ w.grownBy w3 (some g) from by
    subst e
    have hf := Rd.fail h
    exact ⟨hf.1, grown_trans hg hf.2⟩))
  cases b
  · by_cases hn : most < n
    · go_enter Try.func97, Try.ntmps97
      go_wp2_with (first
        | (go_at_call 121; refine hcall.mono ?_; rintro e w2 ⟨rfl, hR, hg⟩; have HR2 := Aside0.mk hR; have HG2 := Aside0.mk hg; obtain ⟨A, c, hb, -, -, -⟩ := hR; have h1 : w2.cell? ⟨g, 1, none⟩ = some (.bool false) := (blk_cell hb 1).trans rfl; clear hb hg hcall)
        | (go_at_call 122; refine (read_fail g t false w2 HR2.out).mono ?_; rintro e w3 ⟨rfl, rfl⟩))
      go_ret
      simp only [iRd, HU.out, hn]
      exact ⟨by simp, by simpa using HF.out _ _ HR2.out HG2.out rfl⟩
    · go_enter Try.func97, Try.ntmps97
      go_wp2_with (first
        | (go_at_call 121; refine hcall.mono ?_; rintro e w2 ⟨rfl, hR, hg⟩; have HR2 := Aside0.mk hR; have HG2 := Aside0.mk hg; obtain ⟨A, c, hb, -, -, -⟩ := hR; have h1 : w2.cell? ⟨g, 1, none⟩ = some (.bool false) := (blk_cell hb 1).trans rfl; clear hb hg hcall))
      go_ret
      have e : iRd l bad most = (wrap64 n, t, false) := by simp [iRd, HU.out, hn]
      rw [e]
      exact ⟨rfl, HR2.out, HG2.out⟩
  · go_enter Try.func97, Try.ntmps97
    go_wp2_with (first
      | (go_at_call 121; refine hcall.mono ?_; rintro e w2 ⟨rfl, hR, hg⟩; have HR2 := Aside0.mk hR; have HG2 := Aside0.mk hg; obtain ⟨A, c, hb, -, -, -⟩ := hR; have h1 : w2.cell? ⟨g, 1, none⟩ = some (.bool true) := (blk_cell hb 1).trans rfl; clear hb hg hcall)
      | (go_at_call 122; refine (read_fail g t true w2 HR2.out).mono ?_; rintro e w3 ⟨rfl, rfl⟩))
    go_ret
    simp only [iRd, HU.out]
    exact ⟨by simp, by simpa using HF.out _ _ HR2.out HG2.out rfl⟩
end Go.Proofs.Ytioooiflpabngaa.PAll
end
section
namespace Go.Proofs.Ytioooiflpabngaa.PAll
open Go.RowKit Go.Proofs.YtioooiflpabngaaW.PrintWords Go.Proofs.YtioooiflpabngaaW.PrintLast Go.Proofs.YtioooiflpabngaaW.PrintMore
set_option linter.unusedVariables false
set_option linter.unusedSimpArgs false
theorem uRd_range (l : List Int) (bad : Bool) : 0 ≤ (uRd l bad).1 ∧ (uRd l bad).1 ≤ 18446744073709551615 := by
  have h : ∀ (l : List Int) (i : Nat) (n : Int) (m : Int) (t : List Int), uGo i n l = some (m, t) → 0 ≤ m ∧ m ≤ 18446744073709551615 := by
    intro l
    induction l with
    | nil => intro i n m t h; cases h
    | cons b l ih =>
      intro i n m t h
      simp only [uGo] at h
      split at h
      · cases h
      · split at h
        · cases h
          exact bits_within .or .u64 _ _
        · exact ih _ _ _ _ h
  unfold uRd
  split
  · exact ⟨Int.le_refl _, show (0 : Int) ≤ _ by decide⟩
  · split
    · exact ⟨Int.le_refl _, show (0 : Int) ≤ _ by decide⟩
    · next h2 => exact h _ _ _ _ _ h2
theorem iRd_range (l : List Int) (bad : Bool) (most : Int) (h0 : 0 ≤ most) (hm : most < 4398046511104) : 0 ≤ (iRd l bad most).1 ∧ (iRd l bad most).1 ≤ most := by
  have := uRd_range l bad
  unfold iRd
  split
  · exact ⟨Int.le_refl _, h0⟩
  · next h =>
    simp only [not_or, Int.not_lt] at h
    have e : wrap64 (uRd l bad).1 = (uRd l bad).1 := by unfold wrap64; omega
    simp only [e]
    omega
theorem iRd_len (l : List Int) (bad : Bool) (most : Int) : (iRd l bad most).2.1.length ≤ l.length := by
  unfold iRd
  split <;> exact uRd_len l bad
def bRd (l : List Int) (bad : Bool) (most : Int) : List Int × List Int × Bool := if (iRd l bad most).2.2 = true ∨ (iRd l bad most).2.1.length < (iRd l bad most).1 then ([], (iRd l bad most).2.1, true) else ((iRd l bad most).2.1.take (iRd l bad most).1.toNat, (iRd l bad most).2.1.drop (iRd l bad most).1.toNat, false)
set_option maxHeartbeats 4000000 in
set_option maxRecDepth 100000 in
theorem read_Bytes (g : Nat) (l : List Int) (bad : Bool) (most : Int) (w : World) (h : Rd w g l bad) (hl : l.length < 4398046511104) (h0m : 0 ≤ most) (hm : most < 4398046511104) :
    Calls Try.prog 119 #[.pointer (some ⟨g, 0, none⟩), .int .i64 most] w fun e w' => ∃ v, e = .returned v ∧ Kd.R (Kd.int .u8) 5 w' w.heap.size (fun _ => True) v (bRd l bad most).1 ∧ Rd w' g (bRd l bad most).2.1 (bRd l bad most).2.2 ∧ w.grownBy w' (some g) := by
  have hgl : g < w.heap.size := by
    obtain ⟨A, c, hb, -, -, -⟩ := h
    exact blk_lt hb
  have hcall := read_Int g l bad most w h hl h0m hm
  have hrg := iRd_range l bad most h0m hm
  have hln := iRd_len l bad most
  obtain ⟨⟨n, t, b⟩, hu⟩ : ∃ u, iRd l bad most = u := ⟨_, rfl⟩
  rw [hu] at hcall hrg hln
  simp only at hcall hrg hln
  have HU := Aside0.mk hu
  have HL := Aside0.mk hl
  have HGL := Aside0.mk hgl
  clear hu h hl hgl
  have HF := Aside0.mk (fun (w2 w3 : World) (h : Rd w2 g t b) (hg : w.grownBy w2 (some g)) (e : w3 = w2.setCell ⟨g, 1, none⟩ (.bool true)) => (show Rd w3 g t true ∧ w.grownBy w3 (some g) from by
    subst e
    have hf := Rd.fail h
    exact ⟨hf.1, grown_trans hg hf.2⟩))
  cases b
  · have hz := HL.out
    by_cases hn : (t.length : Int) < n
    · go_enter Try.func119, Try.ntmps119
      go_wp2_with (go_at_call 97; refine hcall.mono ?_; rintro e w2 ⟨rfl, hR, hg⟩; have HR2 := Aside0.mk hR; have HG2 := Aside0.mk hg; obtain ⟨A, c, hb, -, -, -⟩ := hR; have h0 : w2.cell? ⟨g, 0, none⟩ = some (.slice A t.length c) := (blk_cell hb 0).trans rfl; have h1 : w2.cell? ⟨g, 1, none⟩ = some (.bool false) := (blk_cell hb 1).trans rfl; have hf1 := blk_frozen hb 1; clear hb hg hcall)
      go_ret
      have e : bRd l bad most = ([], t, true) := by simp [bRd, HU.out, hn]
      rw [e]
      exact ⟨_, rfl, Kd.R_nil _ _ _ _ _, HF.out _ _ HR2.out HG2.out rfl⟩
    · go_enter Try.func119, Try.ntmps119
      go_wp2_with (first
        | (go_at_call 97; refine hcall.mono ?_; rintro e w2 ⟨rfl, hR, hg⟩; have HR2 := Aside0.mk hR; have HG2 := Aside0.mk hg; obtain ⟨A, c, hb, hC, hcc, hlo⟩ := hR; have h0 : w2.cell? ⟨g, 0, none⟩ = some (.slice A t.length c) := (blk_cell hb 0).trans rfl; have h1 : w2.cell? ⟨g, 1, none⟩ = some (.bool false) := (blk_cell hb 1).trans rfl; have hf0 := blk_frozen hb 0; have HC2 := Aside0.mk hC; have HB2 := Aside0.mk hb; have HLO := Aside0.mk hlo; clear hb hg hcall hC hlo)
        | ((with_reducible refine gate_builtin (b := .append) (xs := #[.const (.slice none 0 0), .tmp 34]) rfl ?_); at_builtin; refine Kd.R_append_rows (Kd.int .u8) (w0 := w2) w2.heap.size rfl (.const (.slice none 0 0)) (.tmp 34) 30 5 (.int .u8 0) 1 rfl Try.underlying30 info5 rfl (by decide) (by omega) (.slice none 0 0) ([] : List Int) (t.take n.toNat) A n.toNat n.toNat (fun _ => True) (fun _ => False) rfl rfl ?aO ?aR (fun _ _ h => h) (fun _ h => h.elim) ?aF ?aB ?aS ?aL ?_; (case aR => have h7 := Kd.C_take (m := n.toNat) HC2.out (by omega); rw [List.length_take, Nat.min_eq_left (by omega)] at h7; exact h7); (case aB => exact Below.refl _ _); (case aF => exact (fun _ _ => trivial)); (case aO => exact Kd.R_nil _ _ _ _ _); (case aS => exact Nat.le_refl _); (case aL => simp; omega); intro v5 w5 ho hb hg hat; have hb5 := blk_below HB2.out hb; have h05 : w5.cell? ⟨g, 0, none⟩ = some (.slice A t.length c) := (blk_cell hb5 0).trans rfl; have hf05 := blk_frozen hb5 0; have HO5 := Aside0.mk ho; have HB5 := Aside0.mk hb; have HG5 := Aside0.mk hb5; clear hg hat ho hb hb5))
      all_goals go_ret
      all_goals have e : bRd l bad most = (t.take n.toNat, t.drop n.toNat, false) := by simp [bRd, HU.out, hn]
      all_goals rw [e]
      all_goals have h7 := Rd.cut HG5.out (Kd.C_below HC2.out HB5.out) hcc HLO.out n.toNat (by omega)
      all_goals have hs := HG2.out.size
      all_goals have hgl := HGL.out
      all_goals have h8 : w.grownBy w5 (some g) := grown_trans HG2.out ⟨HB5.out.os, HB5.out.tape, HB5.out.output, HB5.out.size, fun k hk _ => HB5.out.block k hk⟩
      all_goals refine ⟨_, rfl, Kd.R_lower (Kd.R_mono (Kd.R_far (Kd.R_mono (Kd.R_bound HO5.out) (fun k hk => (show k ≠ g from by have := hk.2.1; omega))) (fun k hk => hk) _) (fun _ _ => trivial)) hs, ?_⟩
      all_goals first
        | (rw [if_pos (by assumption)] at h7; exact ⟨by first | exact h7.1 | (have h9 := h7.1; rw [show c - n.toNat = 0 by omega] at h9; exact h9) | simp [*], grown_trans h8 (grown_set _ _ _ _)⟩)
        | (rw [if_neg (by assumption)] at h7; exact ⟨by first | exact h7.1 | (have h9 := h7.1; rw [show c - n.toNat = 0 by omega] at h9; exact h9) | simp [*], grown_trans h8 (grown_set _ _ _ _)⟩)
  · go_enter Try.func119, Try.ntmps119
    go_wp2_with (go_at_call 97; refine hcall.mono ?_; rintro e w2 ⟨rfl, hR, hg⟩; have HR2 := Aside0.mk hR; have HG2 := Aside0.mk hg; obtain ⟨A, c, hb, -, -, -⟩ := hR; have h1 : w2.cell? ⟨g, 1, none⟩ = some (.bool true) := (blk_cell hb 1).trans rfl; clear hb hg hcall)
    go_ret
    have e : bRd l bad most = ([], t, true) := by simp [bRd, HU.out]
    rw [e]
    exact ⟨_, rfl, Kd.R_nil _ _ _ _ _, HR2.out, HG2.out⟩
end Go.Proofs.Ytioooiflpabngaa.PAll
end
section
namespace Go.Proofs.Ytioooiflpabngaa.PAll
open Go.RowKit Go.Proofs.YtioooiflpabngaaW.PrintWords
set_option linter.unusedVariables false
set_option linter.unusedSimpArgs false
theorem or64 (n y : Nat) (hn : n < 18446744073709551616) (hy : y < 18446744073709551616) : bits .or .u64 (n : Int) (y : Int) = ((n ||| y : Nat) : Int) := by
  have e : ∀ m : Nat, BitVec.ofInt 64 (m : Int) = BitVec.ofNat 64 m := fun m => by simp
  have hor : n ||| y < 18446744073709551616 := Nat.or_lt_two_pow (n := 64) hn hy
  show IntKind.u64.wrap ((BitVec.ofInt 64 (n : Int) ||| BitVec.ofInt 64 (y : Int)).toNat : Int) = _
  rw [e, e, BitVec.toNat_or, BitVec.toNat_ofNat, BitVec.toNat_ofNat, Nat.mod_eq_of_lt (show n < 2 ^ 64 from hn), Nat.mod_eq_of_lt (show y < 2 ^ 64 from hy)]
  have : IntKind.u64.wrap ((n ||| y : Nat) : Int) = ((n ||| y : Nat) : Int) % 18446744073709551616 := rfl
  rw [this]
  omega
theorem and127 : ∀ a : Fin 256, bits .and .u8 ((a.val : Nat) : Int) 127 = ((a.val % 128 : Nat) : Int) := by decide +kernel
theorem u64_wrap (n : Nat) : IntKind.u64.wrap (n : Int) = ((n % 18446744073709551616 : Nat) : Int) := by
  have : IntKind.u64.wrap (n : Int) = (n : Int) % 18446744073709551616 := rfl
  rw [this]
  omega
theorem pow7 (i : Nat) : (2 : Nat) ^ (7 * i) = 128 ^ i := by rw [Nat.pow_mul]
theorem pow7i (i : Nat) : (2 : Int) ^ (7 * i) = ((128 ^ i : Nat) : Int) := by
  rw [← pow7]
  simp
theorem uAcc_nat (i n b : Nat) (hb : b < 256) (hn : n < 128 ^ i) (hi : i ≤ 9) (h9 : i = 9 → b % 128 ≤ 1) : uAcc i (n : Int) (b : Int) = ((n + b % 128 * 128 ^ i : Nat) : Int) ∧ n + b % 128 * 128 ^ i < 18446744073709551616 := by
  have h1 : n + b % 128 * 128 ^ i < 18446744073709551616 := by
    have hlt : b % 128 < 128 := Nat.mod_lt _ (by decide)
    by_cases e : i = 9
    · have := h9 e
      subst e
      have e9 : 128 ^ 9 = 9223372036854775808 := by decide
      rw [e9] at hn ⊢
      omega
    · have h8 : 128 ^ i ≤ 128 ^ 8 := Nat.pow_le_pow_right (by decide) (by omega)
      have e8 : 128 ^ 8 = 72057594037927936 := by decide
      rw [e8] at h8
      have : b % 128 * 128 ^ i ≤ 127 * 128 ^ i := Nat.mul_le_mul_right _ (by omega)
      omega
  refine ⟨?_, h1⟩
  have ha := and127 ⟨b, hb⟩
  simp only at ha
  unfold uAcc
  rw [ha, u64_wrap, pow7i, Nat.mod_eq_of_lt (show b % 128 < 18446744073709551616 by omega), ← Int.natCast_mul, u64_wrap, Nat.mod_eq_of_lt (by omega), or64 _ _ (by omega) (by omega)]
  congr 1
  rw [← pow7] at hn ⊢
  rw [Nat.or_comm, Nat.mul_comm, ← Nat.two_pow_add_eq_or_of_lt hn]
  omega
def dec : List Int → Nat
  | [] => 0
  | x :: t => x.toNat % 128 + 128 * dec t
theorem dec_append (p q : List Int) : dec (p ++ q) = dec p + 128 ^ p.length * dec q := by
  induction p with
  | nil => simp [dec]
  | cons x p ih =>
    simp only [List.cons_append, dec, ih, List.length_cons, Nat.pow_succ]
    rw [Nat.mul_add, ← Nat.mul_assoc, Nat.mul_comm 128 (128 ^ _)]
    omega
theorem dec_lt : ∀ p : List Int, dec p < 128 ^ p.length
  | [] => by simp [dec]
  | x :: t => by
    have := dec_lt t
    simp only [dec, List.length_cons, Nat.pow_succ]
    omega
theorem dec_uintB (n : Nat) : dec (uintB n) = n := by
  induction n using Nat.strongRecOn with
  | _ n ih =>
    rw [uintB]
    split
    · rw [dec, ih (n / 128) (by omega)]
      omega
    · simp only [dec]
      omega
def More (p : List Int) : Prop := ∀ x ∈ p, 128 ≤ x ∧ x < 256
theorem uintB_shape (n : Nat) : ∃ q c, uintB n = q ++ [c] ∧ More q ∧ 0 ≤ c ∧ c < 128 ∧ (q ≠ [] → c ≠ 0) := by
  induction n using Nat.strongRecOn with
  | _ n ih =>
    rw [uintB]
    split
    · next h =>
      obtain ⟨q, c, e, hq, h0, h1, h2⟩ := ih (n / 128) (by omega)
      refine ⟨((128 + n % 128 : Nat) : Int) :: q, c, by rw [e]; rfl, fun x hx => ?_, h0, h1, fun _ => ?_⟩
      · rcases List.mem_cons.1 hx with rfl | hx
        · omega
        · exact hq x hx
      · cases q with
        | cons y q => exact h2 (by simp)
        | nil =>
          intro hc
          have hd := dec_uintB (n / 128)
          rw [e] at hd
          simp only [List.nil_append, dec] at hd
          omega
    · exact ⟨[], (n : Int), rfl, (fun x hx => nomatch hx), by omega, by omega, fun h => absurd rfl h⟩
theorem more_inj : ∀ {p q : List Int} {b c : Int} {s t : List Int}, More p → More q → b < 128 → c < 128 → p ++ b :: s = q ++ c :: t → p = q ∧ b = c ∧ s = t
  | [], [], b, c, s, t, _, _, _, _, h => by simp only [List.nil_append, List.cons.injEq] at h; exact ⟨rfl, h.1, h.2⟩
  | [], y :: q, b, c, s, t, _, hq, hb, _, h => by
    simp only [List.nil_append, List.cons_append, List.cons.injEq] at h
    have := hq y List.mem_cons_self
    omega
  | x :: p, [], b, c, s, t, hp, _, _, hc, h => by
    simp only [List.nil_append, List.cons_append, List.cons.injEq] at h
    have := hp x List.mem_cons_self
    omega
  | x :: p, y :: q, b, c, s, t, hp, hq, hb, hc, h => by
    simp only [List.cons_append, List.cons.injEq] at h
    obtain ⟨e1, e2, e3⟩ := more_inj (fun z hz => hp z (List.mem_cons_of_mem _ hz)) (fun z hz => hq z (List.mem_cons_of_mem _ hz)) hb hc h.2
    exact ⟨by rw [h.1, e1], e2, e3⟩
theorem dec_bound (p : List Int) (b : Int) (h0 : 0 ≤ b) (h1 : b < 128) : dec (p ++ [b]) = dec p + b.toNat * 128 ^ p.length := by
  rw [dec_append]
  simp only [dec]
  rw [Nat.mul_comm]
  congr 2
  omega
theorem uGo_of : ∀ (l p : List Int) (n : Nat) (t : List Int), More p → Byt l → n < 18446744073709551616 → p ++ l = uintB n ++ t → p.length ≤ 9 → uGo p.length (dec p : Int) l = some ((n : Int), t) := by
  intro l
  induction l with
  | nil =>
    intro p n t hp _ _ h _
    obtain ⟨q, c, e, hq, h0, h1, h2⟩ := uintB_shape n
    exfalso
    rw [e] at h
    have hc : c ∈ p ++ [] := by rw [h]; simp
    rw [List.append_nil] at hc
    have := hp c hc
    omega
  | cons b l ih =>
    intro p n t hp hl hn h h9
    have hb := hl b List.mem_cons_self
    obtain ⟨q, c, e, hq, h0, h1, h2⟩ := uintB_shape n
    have hd := dec_uintB n
    obtain ⟨bn, rfl⟩ : ∃ bn : Nat, b = (bn : Int) := ⟨b.toNat, by omega⟩
    have h' : p ++ (bn : Int) :: l = q ++ c :: t := by rw [h, e]; simp
    by_cases hlt : (bn : Int) < 128
    · obtain ⟨rfl, rfl, rfl⟩ := more_inj hp hq hlt h1 h'
      rw [e, dec_bound p bn (by omega) hlt, Int.toNat_natCast] at hd
      have h10 : p.length = 9 → bn ≤ 1 := fun e9 => by
        rw [e9, show 128 ^ 9 = 9223372036854775808 by decide] at hd
        omega
      have ha := uAcc_nat p.length (dec p) bn (by omega) (dec_lt p) h9 (fun e9 => by have := h10 e9; omega)
      have hno : ¬ ((p.length = 9 ∧ (bn : Int) > 1) ∨ (p.length > 0 ∧ (bn : Int) = 0)) := by
        rintro (⟨a, b⟩ | ⟨a, b⟩)
        · have := h10 a
          omega
        · exact h2 (by cases p; simp at a; simp) b
      simp only [uGo, if_neg hno, if_pos hlt, ha.1, Option.some.injEq, Prod.mk.injEq, and_true]
      have : bn % 128 = bn := by omega
      rw [this, hd]
    · have hno : ¬ ((p.length = 9 ∧ (bn : Int) > 1) ∨ (p.length > 0 ∧ (bn : Int) = 0)) := by
        rintro (⟨a, b⟩ | ⟨a, b⟩)
        · have hle := uintB_length n hn
          have hpq : p.length < q.length := by
            apply Nat.lt_of_not_le
            intro hqp
            have h3 := congrArg (fun l => l[q.length]?) h'
            simp only [List.getElem?_append_right (Nat.le_refl _), Nat.sub_self, List.getElem?_cons_zero] at h3
            by_cases h4 : q.length < p.length
            · rw [List.getElem?_append_left h4] at h3
              have := hp c (List.mem_of_getElem? h3)
              omega
            · have : q.length = p.length := by omega
              rw [this, List.getElem?_append_right (Nat.le_refl _), Nat.sub_self, List.getElem?_cons_zero] at h3
              injection h3 with h3
              omega
          rw [e, List.length_append, List.length_singleton] at hle
          omega
        · omega
      have h9' : p.length ≠ 9 := by
        intro e9
        apply hno
        left
        exact ⟨e9, by omega⟩
      have ha := uAcc_nat p.length (dec p) bn (by omega) (dec_lt p) h9 (fun e9 => absurd e9 h9')
      have e2 : dec (p ++ [(bn : Int)]) = dec p + bn % 128 * 128 ^ p.length := by
        rw [dec_append]
        simp only [dec, Int.toNat_natCast]
        rw [Nat.mul_comm]
        simp
      simp only [uGo, if_neg hno, if_neg hlt, ha.1]
      rw [← e2]
      have h5 := ih (p ++ [(bn : Int)]) n t (fun x hx => by rcases List.mem_append.1 hx with hx | hx; exact hp x hx; rw [List.mem_singleton] at hx; subst hx; omega) (fun x hx => hl x (List.mem_cons_of_mem _ hx)) hn (by rw [← h]; simp) (by simp; omega)
      simpa using h5
theorem uRd_of {n : Nat} {t : List Int} (ht : Byt t) (hn : n < 18446744073709551616) : uRd (uintB n ++ t) false = ((n : Int), t, false) := by
  have h := uGo_of (uintB n ++ t) [] n t (fun x hx => by cases hx) ((uintB_byt n).append ht) hn rfl (by simp)
  have h' : uGo 0 0 (uintB n ++ t) = some ((n : Int), t) := h
  unfold uRd
  simp only [Bool.false_eq_true, if_false, h']
end Go.Proofs.Ytioooiflpabngaa.PAll
end
section
namespace Go.Proofs.Ytioooiflpabngaa.PAll
open Go.RowKit Go.Proofs.YtioooiflpabngaaW.PrintWords Go.Proofs.YtioooiflpabngaaW.PrintLast Go.Proofs.YtioooiflpabngaaW.PrintMore
set_option linter.unusedVariables false
set_option linter.unusedSimpArgs false
def fV (n p : Int) : Bool := (ident_Form.f n p).getD false
theorem fV_eq (n p : Int) : ident_Form.f n p = some (fV n p) := by
  unfold fV ident_Form.f
  repeat' split
  all_goals rfl
def fL (n p q s : Int) : Bool := (label_Form.f n p q s).getD false
theorem fL_eq (n p q s : Int) : label_Form.f n p q s = some (fL n p q s) := by
  unfold fL label_Form.f
  rw [fV_eq, Option.bind_some]
  repeat' split
  all_goals rfl
def vRd (l : List Int) (bad : Bool) : S25 × Bool × List Int × Bool :=
  if (iRd (uRd l bad).2.1 (uRd l bad).2.2 15).2.2 = true ∨ fV (uRd l bad).1 (iRd (uRd l bad).2.1 (uRd l bad).2.2 15).1 = false then (⟨0, 0⟩, false, (iRd (uRd l bad).2.1 (uRd l bad).2.2 15).2)
  else (⟨(uRd l bad).1, (iRd (uRd l bad).2.1 (uRd l bad).2.2 15).1⟩, true, (iRd (uRd l bad).2.1 (uRd l bad).2.2 15).2)
theorem vRd_len (l : List Int) (bad : Bool) : (vRd l bad).2.2.1.length ≤ l.length := by
  have h1 := uRd_len l bad
  have h2 := iRd_len (uRd l bad).2.1 (uRd l bad).2.2 15
  unfold vRd
  split <;> exact Nat.le_trans h2 h1
theorem blk2 {w : World} {g : Nat} {a b : Value} {t : TypeId} (h : w.heap[g]? = some (.cells #[a, b] t (0, 0))) : w.cell? ⟨g, 0, none⟩ = some a ∧ w.cell? ⟨g, 1, none⟩ = some b ∧ w.frozen? ⟨g, 0, none⟩ = false ∧ w.frozen? ⟨g, 1, none⟩ = false ∧ g < w.heap.size :=
  ⟨(blk_cell h 0).trans rfl, (blk_cell h 1).trans rfl, blk_frozen h 0, blk_frozen h 1, blk_lt h⟩
theorem blk4 {w : World} {g : Nat} {a b c d : Value} {t : TypeId} (h : w.heap[g]? = some (.cells #[a, b, c, d] t (0, 0))) : w.cell? ⟨g, 0, none⟩ = some a ∧ w.cell? ⟨g, 1, none⟩ = some b ∧ w.cell? ⟨g, 2, none⟩ = some c ∧ w.cell? ⟨g, 3, none⟩ = some d ∧ w.frozen? ⟨g, 0, none⟩ = false ∧ w.frozen? ⟨g, 1, none⟩ = false ∧ w.frozen? ⟨g, 2, none⟩ = false ∧ w.frozen? ⟨g, 3, none⟩ = false ∧ g < w.heap.size :=
  ⟨(blk_cell h 0).trans rfl, (blk_cell h 1).trans rfl, (blk_cell h 2).trans rfl, (blk_cell h 3).trans rfl, blk_frozen h 0, blk_frozen h 1, blk_frozen h 2, blk_frozen h 3, blk_lt h⟩
theorem blk5 {w : World} {g : Nat} {a b c d f : Value} {t : TypeId} (h : w.heap[g]? = some (.cells #[a, b, c, d, f] t (0, 0))) : w.cell? ⟨g, 0, none⟩ = some a ∧ w.cell? ⟨g, 1, none⟩ = some b ∧ w.cell? ⟨g, 2, none⟩ = some c ∧ w.cell? ⟨g, 3, none⟩ = some d ∧ w.cell? ⟨g, 4, none⟩ = some f ∧ w.frozen? ⟨g, 0, none⟩ = false ∧ w.frozen? ⟨g, 1, none⟩ = false ∧ w.frozen? ⟨g, 2, none⟩ = false ∧ w.frozen? ⟨g, 3, none⟩ = false ∧ w.frozen? ⟨g, 4, none⟩ = false ∧ g < w.heap.size :=
  ⟨(blk_cell h 0).trans rfl, (blk_cell h 1).trans rfl, (blk_cell h 2).trans rfl, (blk_cell h 3).trans rfl, (blk_cell h 4).trans rfl, blk_frozen h 0, blk_frozen h 1, blk_frozen h 2, blk_frozen h 3, blk_frozen h 4, blk_lt h⟩
set_option maxHeartbeats 4000000 in
set_option maxRecDepth 100000 in
theorem read_View (g : Nat) (l : List Int) (bad : Bool) (w : World) (h : Rd w g l bad) (hl : l.length < 4398046511104) :
    Calls Try.prog 99 #[.pointer (some ⟨g, 0, none⟩)] w fun e w' => e = .returned (.tuple #[.agg #[.int .u64 (vRd l bad).1.f0, .int .i64 (vRd l bad).1.f1], .bool (vRd l bad).2.1]) ∧ Rd w' g (vRd l bad).2.2.1 (vRd l bad).2.2.2 ∧ w.grownBy w' (some g) := by
  have hcall := fun W hW => read_Uint g l bad W hW hl
  have hln := uRd_len l bad
  have hgl := h.lt
  have hne : some w.heap.size ≠ some g := by simp; omega
  unfold vRd
  obtain ⟨⟨n, t, b⟩, hu⟩ : ∃ u, uRd l bad = u := ⟨_, rfl⟩
  rw [hu] at hcall hln ⊢
  simp only at hcall hln ⊢
  have hcall2 := fun W hW => read_Int g t b 15 W hW (by omega) (by decide) (by decide)
  obtain ⟨⟨p, s, b2⟩, hi⟩ : ∃ u, iRd t b 15 = u := ⟨_, rfl⟩
  rw [hi] at hcall2 ⊢
  simp only at hcall2 ⊢
  have HL := Aside0.mk hl
  have HR := Aside0.mk h
  clear h hl hu hi
  have hcall3 := fun W => ident_Form.calls n p _ W (fV_eq n p)
  cases b2
  · cases hf : fV n p
    · rw [hf] at hcall3
      simp only [Bool.false_eq_true, false_or, if_true]
      go_enter Try.func99, Try.ntmps99
      go_wp2_with (first
        | (go_at_call 121; refine (hcall _ (HR.out.keep (by with_reducible (repeat (first | exact Aside0.out HR | exact Below.refl _ _ | refine Below.drew ?_ | refine Below.alloc ?_ (by first | omega | (simp; done) | (simp; omega)) _ | refine Below.setCell ?_ (show _ ≤ _ by first | omega | (simp; omega)) _))))).mono ?_; rintro e w2 ⟨rfl, hR, hg⟩; have HR2 := Aside0.mk hR; have HG2 := Aside0.mk (grown_trans (grown_alloc (World.grownBy.refl _ _) _) hg); have HB2 := Aside0.mk (blk_grown (blk_new w _) hg hne); clear hR hg)
        | (go_at_call 97; refine (hcall2 _ HR2.out).mono ?_; rintro e w3 ⟨rfl, hR, hg⟩; have HR3 := Aside0.mk hR; have HG3 := Aside0.mk (grown_trans HG2.out hg); have hB3 := blk_grown HB2.out hg hne; have HB3 := Aside0.mk hB3; obtain ⟨hc30, hc31, hf30, hf31, hlt3⟩ := blk2 hB3; clear hR hg HR2 HG2 hB3)
        | (go_at_call 120; refine (read_Bad _ _ _ _ (HR3.out.keep (by with_reducible (repeat (first | exact Aside0.out HR3 | exact Below.refl _ _ | refine Below.drew ?_ | refine Below.alloc ?_ (by first | omega | (simp; done) | (simp; omega)) _ | refine Below.setCell ?_ (show _ ≤ _ by first | omega | (simp; omega)) _))))).mono ?_; rintro e w4 ⟨rfl, rfl⟩)
        | (go_at_call 83; refine (hcall3 _).mono ?_; rintro e w5 ⟨rfl, hb5⟩; obtain ⟨hc50, hc51, hf50, hf51, hlt5⟩ := blk2 (blk_below (blk_alloc HB3.out _) hb5); have HBR5 := Aside0.mk (blk_below (blk_alloc HB3.out _) hb5); obtain ⟨hv50, hv51, hw50, hw51, hlv5⟩ := blk2 (blk_below (blk_new w3 _) hb5); have HK5 := Aside0.mk (show Below (g + 1) w3 w5 from (Below.alloc (Below.refl _ _) (by omega) _).trans (hb5.mono (by simp; omega))); have HG5 := Aside0.mk (grown_below (grown_alloc HG3.out _) hb5); clear hb5))
      refine bodyPost_ret (results_ct rfl _ _ w.heap.size 25 #[.int .u64 0, .int .i64 0] (0, 0) _ rfl (blk_put (cs := #[.int .u64 0, .int .i64 0]) (blk_put HBR5.out 0 _ rfl) 1 _ rfl) Try.underlying25 rfl (by kernel_rfl)) rfl ?_
      exact ⟨rfl, HR3.out.keep (by with_reducible (repeat (first | exact Aside0.out HK5 | exact Below.refl _ _ | refine Below.drew ?_ | refine Below.alloc ?_ (by first | omega | (simp; done) | (simp; omega)) _ | refine Below.setCell ?_ (show _ ≤ _ by first | omega | (simp; omega)) _))), by with_reducible (repeat (first | exact Aside0.out HG5 | exact World.grownBy.refl _ _ | refine grown_drew ?_ | refine grown_alloc ?_ _ | refine grown_new ?_ (by first | exact Nat.le_refl _ | omega | (simp; omega)) _))⟩
    · rw [hf] at hcall3
      simp only [Bool.false_eq_true, Bool.true_eq_false, or_self, if_false]
      go_enter Try.func99, Try.ntmps99
      go_wp2_with (first
        | (go_at_call 121; refine (hcall _ (HR.out.keep (by with_reducible (repeat (first | exact Aside0.out HR | exact Below.refl _ _ | refine Below.drew ?_ | refine Below.alloc ?_ (by first | omega | (simp; done) | (simp; omega)) _ | refine Below.setCell ?_ (show _ ≤ _ by first | omega | (simp; omega)) _))))).mono ?_; rintro e w2 ⟨rfl, hR, hg⟩; have HR2 := Aside0.mk hR; have HG2 := Aside0.mk (grown_trans (grown_alloc (World.grownBy.refl _ _) _) hg); have HB2 := Aside0.mk (blk_grown (blk_new w _) hg hne); clear hR hg)
        | (go_at_call 97; refine (hcall2 _ HR2.out).mono ?_; rintro e w3 ⟨rfl, hR, hg⟩; have HR3 := Aside0.mk hR; have HG3 := Aside0.mk (grown_trans HG2.out hg); have hB3 := blk_grown HB2.out hg hne; have HB3 := Aside0.mk hB3; obtain ⟨hc30, hc31, hf30, hf31, hlt3⟩ := blk2 hB3; clear hR hg HR2 HG2 hB3)
        | (go_at_call 120; refine (read_Bad _ _ _ _ (HR3.out.keep (by with_reducible (repeat (first | exact Aside0.out HR3 | exact Below.refl _ _ | refine Below.drew ?_ | refine Below.alloc ?_ (by first | omega | (simp; done) | (simp; omega)) _ | refine Below.setCell ?_ (show _ ≤ _ by first | omega | (simp; omega)) _))))).mono ?_; rintro e w4 ⟨rfl, rfl⟩)
        | (go_at_call 83; refine (hcall3 _).mono ?_; rintro e w5 ⟨rfl, hb5⟩; obtain ⟨hc50, hc51, hf50, hf51, hlt5⟩ := blk2 (blk_below (blk_alloc HB3.out _) hb5); have HBR5 := Aside0.mk (blk_below (blk_alloc HB3.out _) hb5); obtain ⟨hv50, hv51, hw50, hw51, hlv5⟩ := blk2 (blk_below (blk_new w3 _) hb5); have HK5 := Aside0.mk (show Below (g + 1) w3 w5 from (Below.alloc (Below.refl _ _) (by omega) _).trans (hb5.mono (by simp; omega))); have HG5 := Aside0.mk (grown_below (grown_alloc HG3.out _) hb5); clear hb5))
      refine bodyPost_ret (results_ct rfl _ _ w.heap.size 25 #[.int .u64 n, .int .i64 p] (0, 0) _ rfl (blk_put (cs := #[.int .u64 n, .int .i64 0]) (blk_put HBR5.out 0 _ rfl) 1 _ rfl) Try.underlying25 rfl (by kernel_rfl)) rfl ?_
      exact ⟨rfl, HR3.out.keep (by with_reducible (repeat (first | exact Aside0.out HK5 | exact Below.refl _ _ | refine Below.drew ?_ | refine Below.alloc ?_ (by first | omega | (simp; done) | (simp; omega)) _ | refine Below.setCell ?_ (show _ ≤ _ by first | omega | (simp; omega)) _))), by with_reducible (repeat (first | exact Aside0.out HG5 | exact World.grownBy.refl _ _ | refine grown_drew ?_ | refine grown_alloc ?_ _ | refine grown_new ?_ (by first | exact Nat.le_refl _ | omega | (simp; omega)) _))⟩
  · simp only [true_or, if_true]
    go_enter Try.func99, Try.ntmps99
    go_wp2_with (first
      | (go_at_call 121; refine (hcall _ (HR.out.keep (by with_reducible (repeat (first | exact Aside0.out HR | exact Below.refl _ _ | refine Below.drew ?_ | refine Below.alloc ?_ (by first | omega | (simp; done) | (simp; omega)) _ | refine Below.setCell ?_ (show _ ≤ _ by first | omega | (simp; omega)) _))))).mono ?_; rintro e w2 ⟨rfl, hR, hg⟩; have HR2 := Aside0.mk hR; have HG2 := Aside0.mk (grown_trans (grown_alloc (World.grownBy.refl _ _) _) hg); have HB2 := Aside0.mk (blk_grown (blk_new w _) hg hne); clear hR hg)
      | (go_at_call 97; refine (hcall2 _ HR2.out).mono ?_; rintro e w3 ⟨rfl, hR, hg⟩; have HR3 := Aside0.mk hR; have HG3 := Aside0.mk (grown_trans HG2.out hg); have hB3 := blk_grown HB2.out hg hne; have HB3 := Aside0.mk hB3; obtain ⟨hc30, hc31, hf30, hf31, hlt3⟩ := blk2 hB3; clear hR hg HR2 HG2 hB3)
      | (go_at_call 120; refine (read_Bad _ _ _ _ (HR3.out.keep (by with_reducible (repeat (first | exact Aside0.out HR3 | exact Below.refl _ _ | refine Below.drew ?_ | refine Below.alloc ?_ (by first | omega | (simp; done) | (simp; omega)) _ | refine Below.setCell ?_ (show _ ≤ _ by first | omega | (simp; omega)) _))))).mono ?_; rintro e w4 ⟨rfl, rfl⟩))
    refine bodyPost_ret (results_ct rfl _ _ w.heap.size 25 #[.int .u64 0, .int .i64 0] (0, 0) _ rfl (blk_alloc (blk_put (cs := #[.int .u64 0, .int .i64 0]) (blk_put HB3.out 0 _ rfl) 1 _ rfl) _) Try.underlying25 rfl (by kernel_rfl)) rfl ?_
    exact ⟨rfl, HR3.out.keep (by with_reducible (repeat (first | exact Aside0.out HR3 | exact Below.refl _ _ | refine Below.drew ?_ | refine Below.alloc ?_ (by first | omega | (simp; done) | (simp; omega)) _ | refine Below.setCell ?_ (show _ ≤ _ by first | omega | (simp; omega)) _))), by with_reducible (repeat (first | exact Aside0.out HG3 | exact World.grownBy.refl _ _ | refine grown_drew ?_ | refine grown_alloc ?_ _ | refine grown_new ?_ (by first | exact Nat.le_refl _ | omega | (simp; omega)) _))⟩
end Go.Proofs.Ytioooiflpabngaa.PAll
end
section
namespace Go.Proofs.Ytioooiflpabngaa.PAll
open Go.RowKit Go.Proofs.YtioooiflpabngaaW.PrintWords Go.Proofs.YtioooiflpabngaaW.PrintLast Go.Proofs.YtioooiflpabngaaW.PrintMore
set_option linter.unusedVariables false
set_option linter.unusedSimpArgs false
def lPre (l : List Int) (bad : Bool) : S25 × Bool × Int × Int × List Int × Bool :=
  ((vRd l bad).1, (vRd l bad).2.1, (uRd (vRd l bad).2.2.1 (vRd l bad).2.2.2).1, iRd (uRd (vRd l bad).2.2.1 (vRd l bad).2.2.2).2.1 (uRd (vRd l bad).2.2.1 (vRd l bad).2.2.2).2.2 15)
def lRd (l : List Int) (bad : Bool) : S27 × Bool × List Int × Bool :=
  if (lPre l bad).2.1 = false ∨ (lPre l bad).2.2.2.2.2 = true ∨ fL (lPre l bad).1.f0 (lPre l bad).1.f1 (lPre l bad).2.2.1 (lPre l bad).2.2.2.1 = false then (⟨⟨0, 0⟩, 0, 0⟩, false, (lPre l bad).2.2.2.2)
  else (⟨(lPre l bad).1, (lPre l bad).2.2.1, (lPre l bad).2.2.2.1⟩, true, (lPre l bad).2.2.2.2)
theorem lRd_len (l : List Int) (bad : Bool) : (lRd l bad).2.2.1.length ≤ l.length := by
  have h0 := vRd_len l bad
  have h1 := uRd_len (vRd l bad).2.2.1 (vRd l bad).2.2.2
  have h2 := iRd_len (uRd (vRd l bad).2.2.1 (vRd l bad).2.2.2).2.1 (uRd (vRd l bad).2.2.1 (vRd l bad).2.2.2).2.2 15
  unfold lRd lPre
  split <;> exact Nat.le_trans h2 (Nat.le_trans h1 h0)
theorem blk_put4 {w : World} {g : Nat} {a b c d : Value} {t : TypeId} (h : w.heap[g]? = some (.cells #[a, b, c, d] t (0, 0))) (a' b' c' d' : Value) : ((((w.setCell ⟨g, 0, none⟩ a').setCell ⟨g, 1, none⟩ b').setCell ⟨g, 2, none⟩ c').setCell ⟨g, 3, none⟩ d').heap[g]? = some (.cells #[a', b', c', d'] t (0, 0)) :=
  blk_put (cs := #[a', b', c', d]) (blk_put (cs := #[a', b', c, d]) (blk_put (cs := #[a', b, c, d]) (blk_put h 0 a' rfl) 1 b' rfl) 2 c' rfl) 3 d' rfl
set_option maxHeartbeats 4000000 in
set_option maxRecDepth 100000 in
theorem read_Label (g : Nat) (l : List Int) (bad : Bool) (w : World) (h : Rd w g l bad) (hl : l.length < 4398046511104) :
    Calls Try.prog 98 #[.pointer (some ⟨g, 0, none⟩)] w fun e w' => e = .returned (.tuple #[.agg #[.int .u64 (lRd l bad).1.f0.f0, .int .i64 (lRd l bad).1.f0.f1, .int .u64 (lRd l bad).1.f1, .int .i64 (lRd l bad).1.f2], .bool (lRd l bad).2.1]) ∧ Rd w' g (lRd l bad).2.2.1 (lRd l bad).2.2.2 ∧ w.grownBy w' (some g) := by
  have hcall := fun W hW => read_View g l bad W hW hl
  have hln := vRd_len l bad
  have hgl := h.lt
  have hne : some w.heap.size ≠ some g := by simp; omega
  unfold lRd lPre
  obtain ⟨⟨⟨n, p⟩, ok, t, b⟩, hv⟩ : ∃ u, vRd l bad = u := ⟨_, rfl⟩
  rw [hv] at hcall hln ⊢
  simp only at hcall hln ⊢
  have hcall2 := fun W hW => read_Uint g t b W hW (by omega)
  have hln2 := uRd_len t b
  obtain ⟨⟨q, t2, b2⟩, hu⟩ : ∃ u, uRd t b = u := ⟨_, rfl⟩
  rw [hu] at hcall2 hln2 ⊢
  simp only at hcall2 hln2 ⊢
  have hcall3 := fun W hW => read_Int g t2 b2 15 W hW (by omega) (by decide) (by decide)
  obtain ⟨⟨s, t3, b3⟩, hi⟩ : ∃ u, iRd t2 b2 15 = u := ⟨_, rfl⟩
  rw [hi] at hcall3 ⊢
  simp only at hcall3 ⊢
  have HL := Aside0.mk hl
  have HR := Aside0.mk h
  clear h hl hv hu hi
  have hcall4 := fun W => label_Form.calls n p q s _ W (fL_eq n p q s)
  obtain ⟨⟨⟨⟨rn, rp⟩, rq, rs⟩, rok, rt, rb⟩, hr⟩ : ∃ u : S27 × Bool × List Int × Bool, (if ok = false ∨ b3 = true ∨ fL n p q s = false then (⟨⟨0, 0⟩, 0, 0⟩, false, t3, b3) else (⟨⟨n, p⟩, q, s⟩, true, t3, b3)) = u := ⟨_, rfl⟩
  rw [hr]
  simp only
  have HRR := Aside0.mk hr
  clear hr
  go_enter Try.func98, Try.ntmps98
  go_upto_region 2 with (go_at_call 99; refine (hcall _ (HR.out.keep (by with_reducible (repeat (first | exact Aside0.out HR | exact Below.refl _ _ | refine Below.drew ?_ | refine Below.alloc ?_ (by first | omega | (simp; done) | (simp; omega)) _ | refine Below.setCell ?_ (show _ ≤ _ by first | omega | (simp; omega)) _))))).mono ?_; rintro e w2 ⟨rfl, hR, hg⟩; have HR2 := Aside0.mk hR; have HG2 := Aside0.mk (grown_trans (grown_alloc (World.grownBy.refl _ _) _) hg); have HB2 := Aside0.mk (blk_grown (blk_new w _) hg hne); have hlt2 := HG2.out.size; have hlr2 := blk_lt HB2.out; clear hR hg)
  obtain ⟨hw20, hw21, -, -, -⟩ := blk2 (blk_new w2 (.cells #[.int .u64 n, .int .i64 p] 25))
  have HV2 := Aside0.mk (blk_new w2 (.cells #[.int .u64 n, .int .i64 p] 25))
  go_cut [6] (fun s6 wx => ∃ bl : Nat, s6 = .pointer (some ⟨bl, 0, none⟩) ∧ w.heap.size < bl ∧ Aside0 (wx.heap[bl]? = some (.cells #[.int .u64 n, .int .i64 p, .int .u64 q, .int .i64 s] 27 (0, 0))) ∧ Aside0 (wx.heap[w.heap.size]? = some (.cells #[.int .u64 0, .int .i64 0, .int .u64 0, .int .i64 0] 27 (0, 0))) ∧ Aside0 (Rd wx g t3 b3) ∧ Aside0 (w.grownBy wx (some g)))
  case first =>
    go_region_held3 (fun w' => w'.cell? ⟨w2.heap.size, 0, none⟩ = some (.int .u64 n) ∧ w'.cell? ⟨w2.heap.size, 1, none⟩ = some (.int .i64 p)) (constructor <;> (with_reducible repeat (first | exact hw20 | exact hw21 | exact hw30 | exact hw31 | exact hw40 | exact hw41 | refine cell_drew ?_ | refine cell_alloc ?_ _ | refine cell_far ?_ (by first | omega | (simp; done) | (simp; omega)) _)))
      (first
        | (go_at_call 121; refine (hcall2 ((w2.alloc (.cells #[.int .u64 n, .int .i64 p] 25 (0, 0))).alloc (.cells #[.int .u64 0, .int .i64 0, .int .u64 0, .int .i64 0] 27 (0, 0))).drew (HR2.out.keep (by with_reducible (repeat (first | exact Aside0.out HR2 | exact Below.refl _ _ | refine Below.drew ?_ | refine Below.alloc ?_ (by first | omega | (simp; done) | (simp; omega)) _ | refine Below.setCell ?_ (show _ ≤ _ by first | omega | (simp; omega)) _))))).mono ?_; rintro e w3 ⟨rfl, hR, hg0⟩; have hg := un_drew hg0; have HR3 := Aside0.mk hR; have HG3 := Aside0.mk (grown_trans (show w.grownBy _ (some g) from by with_reducible (repeat (first | exact Aside0.out HG2 | exact World.grownBy.refl _ _ | refine grown_drew ?_ | refine grown_alloc ?_ _ | refine grown_new ?_ (by first | exact Nat.le_refl _ | omega | (simp; omega)) _))) hg0); have HB3 := Aside0.mk (blk_grown (show _ = some (.cells #[.int .u64 0, .int .i64 0, .int .u64 0, .int .i64 0] 27 (0, 0)) from by with_reducible (repeat (first | exact Aside0.out HB2 | refine blk_drew ?_ | refine blk_alloc ?_ _ | refine blk_far ?_ (by first | omega | (simp; done) | (simp; omega)) _))) hg0 hne); have HV3 := Aside0.mk (blk_grown (g := w2.heap.size) (show _ = some (Obj.cells #[.int .u64 n, .int .i64 p] 25 (0, 0)) from by with_reducible (repeat (first | exact Aside0.out HV2 | refine blk_drew ?_ | refine blk_alloc ?_ _ | refine blk_far ?_ (by first | omega | (simp; done) | (simp; omega)) _))) hg0 (by simp; omega)); have HL3 := Aside0.mk (show w3.heap[w2.heap.size + 1]? = some (.cells #[.int .u64 0, .int .i64 0, .int .u64 0, .int .i64 0] 27 (0, 0)) from by have h7 := blk_grown (blk_new (w2.alloc (.cells #[.int .u64 n, .int .i64 p] 25 (0, 0))) (.cells #[.int .u64 0, .int .i64 0, .int .u64 0, .int .i64 0] 27 (0, 0))) hg (by simp; omega); rw [World.size_alloc] at h7; exact h7); obtain ⟨hw30, hw31, -, -, -⟩ := blk2 HV3.out; have hlt3 := hg0.size; have hlr3 := blk_lt HB3.out; have hlv3 := blk_lt HV3.out; clear hR hg hg0)
        | (go_at_call 121; refine (hcall2 (w2.alloc (.cells #[.int .u64 n, .int .i64 p] 25 (0, 0))).drew (HR2.out.keep (by with_reducible (repeat (first | exact Aside0.out HR2 | exact Below.refl _ _ | refine Below.drew ?_ | refine Below.alloc ?_ (by first | omega | (simp; done) | (simp; omega)) _ | refine Below.setCell ?_ (show _ ≤ _ by first | omega | (simp; omega)) _))))).mono ?_; rintro e w3 ⟨rfl, hR, hg0⟩; have hg := un_drew hg0; have HR3 := Aside0.mk hR; have HG3 := Aside0.mk (grown_trans (show w.grownBy _ (some g) from by with_reducible (repeat (first | exact Aside0.out HG2 | exact World.grownBy.refl _ _ | refine grown_drew ?_ | refine grown_alloc ?_ _ | refine grown_new ?_ (by first | exact Nat.le_refl _ | omega | (simp; omega)) _))) hg0); have HB3 := Aside0.mk (blk_grown (show _ = some (.cells #[.int .u64 0, .int .i64 0, .int .u64 0, .int .i64 0] 27 (0, 0)) from by with_reducible (repeat (first | exact Aside0.out HB2 | refine blk_drew ?_ | refine blk_alloc ?_ _ | refine blk_far ?_ (by first | omega | (simp; done) | (simp; omega)) _))) hg0 hne); have HV3 := Aside0.mk (blk_grown (g := w2.heap.size) (show _ = some (Obj.cells #[.int .u64 n, .int .i64 p] 25 (0, 0)) from by with_reducible (repeat (first | exact Aside0.out HV2 | refine blk_drew ?_ | refine blk_alloc ?_ _ | refine blk_far ?_ (by first | omega | (simp; done) | (simp; omega)) _))) hg0 (by simp; omega)); obtain ⟨hw30, hw31, -, -, -⟩ := blk2 HV3.out; have hlt3 := hg0.size; have hlr3 := blk_lt HB3.out; have hlv3 := blk_lt HV3.out; clear hR hg hg0)
        | (go_at_call 97; revert HL3; intro HL3; refine (hcall3 w3 (HR3.out.keep (by with_reducible (repeat (first | exact Aside0.out HR3 | exact Below.refl _ _ | refine Below.drew ?_ | refine Below.alloc ?_ (by first | omega | (simp; done) | (simp; omega)) _ | refine Below.setCell ?_ (show _ ≤ _ by first | omega | (simp; omega)) _))))).mono ?_; rintro e w4 ⟨rfl, hR, hg⟩; have HR4 := Aside0.mk hR; have HG4 := Aside0.mk (grown_trans (show w.grownBy _ (some g) from by with_reducible (repeat (first | exact Aside0.out HG3 | exact World.grownBy.refl _ _ | refine grown_drew ?_ | refine grown_alloc ?_ _ | refine grown_new ?_ (by first | exact Nat.le_refl _ | omega | (simp; omega)) _))) hg); have HB4 := Aside0.mk (blk_grown (show _ = some (.cells #[.int .u64 0, .int .i64 0, .int .u64 0, .int .i64 0] 27 (0, 0)) from by with_reducible (repeat (first | exact Aside0.out HB3 | refine blk_drew ?_ | refine blk_alloc ?_ _ | refine blk_far ?_ (by first | omega | (simp; done) | (simp; omega)) _))) hg hne); have HV4 := Aside0.mk (blk_grown (g := w2.heap.size) (show _ = some (Obj.cells #[.int .u64 n, .int .i64 p] 25 (0, 0)) from by with_reducible (repeat (first | exact Aside0.out HV3 | refine blk_drew ?_ | refine blk_alloc ?_ _ | refine blk_far ?_ (by first | omega | (simp; done) | (simp; omega)) _))) hg (by simp; omega)); have HL4 := Aside0.mk (blk_grown HL3.out hg (by simp; omega)); obtain ⟨hw40, hw41, -, -, -⟩ := blk2 HV4.out; have hlt4 := hg.size; have hlr4 := blk_lt HB4.out; have hlv4 := blk_lt HV4.out; obtain ⟨hL0, hL1, hL2, hL3, hf0, hf1, hf2, hf3, hLl⟩ := blk4 HL4.out; clear hR hg)
        | (go_at_call 97; refine (hcall3 (w3.alloc (.cells #[.int .u64 0, .int .i64 0, .int .u64 0, .int .i64 0] 27 (0, 0))) (HR3.out.keep (by with_reducible (repeat (first | exact Aside0.out HR3 | exact Below.refl _ _ | refine Below.drew ?_ | refine Below.alloc ?_ (by first | omega | (simp; done) | (simp; omega)) _ | refine Below.setCell ?_ (show _ ≤ _ by first | omega | (simp; omega)) _))))).mono ?_; rintro e w4 ⟨rfl, hR, hg⟩; have HR4 := Aside0.mk hR; have HG4 := Aside0.mk (grown_trans (show w.grownBy _ (some g) from by with_reducible (repeat (first | exact Aside0.out HG3 | exact World.grownBy.refl _ _ | refine grown_drew ?_ | refine grown_alloc ?_ _ | refine grown_new ?_ (by first | exact Nat.le_refl _ | omega | (simp; omega)) _))) hg); have HB4 := Aside0.mk (blk_grown (show _ = some (.cells #[.int .u64 0, .int .i64 0, .int .u64 0, .int .i64 0] 27 (0, 0)) from by with_reducible (repeat (first | exact Aside0.out HB3 | refine blk_drew ?_ | refine blk_alloc ?_ _ | refine blk_far ?_ (by first | omega | (simp; done) | (simp; omega)) _))) hg hne); have HV4 := Aside0.mk (blk_grown (g := w2.heap.size) (show _ = some (Obj.cells #[.int .u64 n, .int .i64 p] 25 (0, 0)) from by with_reducible (repeat (first | exact Aside0.out HV3 | refine blk_drew ?_ | refine blk_alloc ?_ _ | refine blk_far ?_ (by first | omega | (simp; done) | (simp; omega)) _))) hg (by simp; omega)); have HL4 := Aside0.mk (blk_grown (blk_new w3 (.cells #[.int .u64 0, .int .i64 0, .int .u64 0, .int .i64 0] 27 (0, 0))) hg (by simp; omega)); obtain ⟨hw40, hw41, -, -, -⟩ := blk2 HV4.out; have hlt4 := hg.size; have hlr4 := blk_lt HB4.out; have hlv4 := blk_lt HV4.out; obtain ⟨hL0, hL1, hL2, hL3, hf0, hf1, hf2, hf3, hLl⟩ := blk4 HL4.out; clear hR hg)
        | (go_at_call 97; refine (hcall3 w3 (HR3.out.keep (by with_reducible (repeat (first | exact Aside0.out HR3 | exact Below.refl _ _ | refine Below.drew ?_ | refine Below.alloc ?_ (by first | omega | (simp; done) | (simp; omega)) _ | refine Below.setCell ?_ (show _ ≤ _ by first | omega | (simp; omega)) _))))).mono ?_; rintro e w4 ⟨rfl, hR, hg⟩; have HR4 := Aside0.mk hR; have HG4 := Aside0.mk (grown_trans (show w.grownBy _ (some g) from by with_reducible (repeat (first | exact Aside0.out HG3 | exact World.grownBy.refl _ _ | refine grown_drew ?_ | refine grown_alloc ?_ _ | refine grown_new ?_ (by first | exact Nat.le_refl _ | omega | (simp; omega)) _))) hg); have HB4 := Aside0.mk (blk_grown (show _ = some (.cells #[.int .u64 0, .int .i64 0, .int .u64 0, .int .i64 0] 27 (0, 0)) from by with_reducible (repeat (first | exact Aside0.out HB3 | refine blk_drew ?_ | refine blk_alloc ?_ _ | refine blk_far ?_ (by first | omega | (simp; done) | (simp; omega)) _))) hg hne); have HV4 := Aside0.mk (blk_grown (g := w2.heap.size) (show _ = some (Obj.cells #[.int .u64 n, .int .i64 p] 25 (0, 0)) from by with_reducible (repeat (first | exact Aside0.out HV3 | refine blk_drew ?_ | refine blk_alloc ?_ _ | refine blk_far ?_ (by first | omega | (simp; done) | (simp; omega)) _))) hg (by simp; omega)); obtain ⟨hw40, hw41, -, -, -⟩ := blk2 HV4.out; have hlt4 := hg.size; have hlr4 := blk_lt HB4.out; have hlv4 := blk_lt HV4.out; clear hR hg))
    all_goals go_wp2_with fail
    all_goals go_meet
    all_goals exact ⟨_, rfl, by omega, ⟨by first | exact blk_new w4 _ | exact blk_put4 HL4.out _ _ _ _⟩, ⟨by with_reducible (repeat (first | exact Aside0.out HB4 | refine blk_drew ?_ | refine blk_alloc ?_ _ | refine blk_far ?_ (by first | omega | (simp; done) | (simp; omega)) _))⟩, ⟨HR4.out.keep (by with_reducible (repeat (first | exact Aside0.out HR4 | exact Below.refl _ _ | refine Below.drew ?_ | refine Below.alloc ?_ (by first | omega | (simp; done) | (simp; omega)) _ | refine Below.setCell ?_ (show _ ≤ _ by first | omega | (simp; omega)) _)))⟩, ⟨by with_reducible (repeat (first | exact Aside0.out HG4 | exact World.grownBy.refl _ _ | refine grown_drew ?_ | refine grown_alloc ?_ _ | refine grown_new ?_ (by first | exact Nat.le_refl _ | omega | (simp; omega)) _))⟩⟩
  case rest =>
    obtain ⟨bl, rfl, hlt, HL5, HB5, HR5, HG5⟩ := hcut
    obtain ⟨ha0, ha1, ha2, ha3, hb0, hb1, hb2, hb3, hal⟩ := blk4 HB5.out
    obtain ⟨hm0', hm1', hm2', hm3', hn0', hn1', hn2', hn3', hml'⟩ := blk4 HL5.out
    clear hcall hcall2 hcall3
    cases ok
    · have hr := HRR.out
      rw [if_pos (Or.inl rfl)] at hr
      cases hr
      go_wp2_with fail
      refine bodyPost_ret (results_ct rfl _ _ w.heap.size 27 #[.int .u64 0, .int .i64 0, .int .u64 0, .int .i64 0] (0, 0) _ rfl (blk_put4 HB5.out _ _ _ _) Try.underlying27 rfl (by kernel_rfl)) rfl ?_
      exact ⟨rfl, HR5.out.keep (by with_reducible (repeat (first | exact Aside0.out HR5 | exact Below.refl _ _ | refine Below.drew ?_ | refine Below.alloc ?_ (by first | omega | (simp; done) | (simp; omega)) _ | refine Below.setCell ?_ (show _ ≤ _ by first | omega | (simp; omega)) _))), by with_reducible (repeat (first | exact Aside0.out HG5 | exact World.grownBy.refl _ _ | refine grown_drew ?_ | refine grown_alloc ?_ _ | refine grown_new ?_ (by first | exact Nat.le_refl _ | omega | (simp; omega)) _))⟩
    cases b3
    · cases hf : fL n p q s
      · rw [hf] at hcall4
        have hr := HRR.out
        rw [if_pos (Or.inr (Or.inr hf))] at hr
        cases hr
        go_wp2_with (first | (go_at_call 120; refine (read_Bad _ _ _ _ HR5.out).mono ?_; rintro e w5 ⟨rfl, rfl⟩) | (go_at_call 40; refine (hcall4 _).mono ?_; rintro e w6 ⟨rfl, hb6⟩; have HB6 := Aside0.mk (blk_below HB5.out hb6); obtain ⟨hr0, hr1, hr2, hr3, hs0, hs1, hs2, hs3, hrl⟩ := blk4 HB6.out; obtain ⟨hm0, hm1, hm2, hm3, hn0, hn1, hn2, hn3, hml⟩ := blk4 (blk_below HL5.out hb6); have HR6 := Aside0.mk (HR5.out.keep (hb6.mono (by have := HR5.out.lt; omega))); have HG6 := Aside0.mk (grown_below HG5.out hb6); clear hb6))
        refine bodyPost_ret (results_ct rfl _ _ w.heap.size 27 #[.int .u64 0, .int .i64 0, .int .u64 0, .int .i64 0] (0, 0) _ rfl (blk_put4 HB6.out _ _ _ _) Try.underlying27 rfl (by kernel_rfl)) rfl ?_
        exact ⟨rfl, HR6.out.keep (by with_reducible (repeat (first | exact Aside0.out HR6 | exact Below.refl _ _ | refine Below.drew ?_ | refine Below.alloc ?_ (by first | omega | (simp; done) | (simp; omega)) _ | refine Below.setCell ?_ (show _ ≤ _ by first | omega | (simp; omega)) _))), by with_reducible (repeat (first | exact Aside0.out HG6 | exact World.grownBy.refl _ _ | refine grown_drew ?_ | refine grown_alloc ?_ _ | refine grown_new ?_ (by first | exact Nat.le_refl _ | omega | (simp; omega)) _))⟩
      · rw [hf] at hcall4
        have hr := HRR.out
        rw [if_neg (by simp [hf])] at hr
        cases hr
        go_wp2_with (first | (go_at_call 120; refine (read_Bad _ _ _ _ HR5.out).mono ?_; rintro e w5 ⟨rfl, rfl⟩) | (go_at_call 40; refine (hcall4 _).mono ?_; rintro e w6 ⟨rfl, hb6⟩; have HB6 := Aside0.mk (blk_below HB5.out hb6); obtain ⟨hr0, hr1, hr2, hr3, hs0, hs1, hs2, hs3, hrl⟩ := blk4 HB6.out; obtain ⟨hm0, hm1, hm2, hm3, hn0, hn1, hn2, hn3, hml⟩ := blk4 (blk_below HL5.out hb6); have HR6 := Aside0.mk (HR5.out.keep (hb6.mono (by have := HR5.out.lt; omega))); have HG6 := Aside0.mk (grown_below HG5.out hb6); clear hb6))
        refine bodyPost_ret (results_ct rfl _ _ w.heap.size 27 #[.int .u64 n, .int .i64 p, .int .u64 q, .int .i64 s] (0, 0) _ rfl (blk_put4 HB6.out _ _ _ _) Try.underlying27 rfl (by kernel_rfl)) rfl ?_
        exact ⟨rfl, HR6.out.keep (by with_reducible (repeat (first | exact Aside0.out HR6 | exact Below.refl _ _ | refine Below.drew ?_ | refine Below.alloc ?_ (by first | omega | (simp; done) | (simp; omega)) _ | refine Below.setCell ?_ (show _ ≤ _ by first | omega | (simp; omega)) _))), by with_reducible (repeat (first | exact Aside0.out HG6 | exact World.grownBy.refl _ _ | refine grown_drew ?_ | refine grown_alloc ?_ _ | refine grown_new ?_ (by first | exact Nat.le_refl _ | omega | (simp; omega)) _))⟩
    · have hr := HRR.out
      rw [if_pos (Or.inr (Or.inl rfl))] at hr
      cases hr
      go_wp2_with (go_at_call 120; refine (read_Bad _ _ _ _ HR5.out).mono ?_; rintro e w5 ⟨rfl, rfl⟩)
      refine bodyPost_ret (results_ct rfl _ _ w.heap.size 27 #[.int .u64 0, .int .i64 0, .int .u64 0, .int .i64 0] (0, 0) _ rfl (blk_put4 HB5.out _ _ _ _) Try.underlying27 rfl (by kernel_rfl)) rfl ?_
      exact ⟨rfl, HR5.out.keep (by with_reducible (repeat (first | exact Aside0.out HR5 | exact Below.refl _ _ | refine Below.drew ?_ | refine Below.alloc ?_ (by first | omega | (simp; done) | (simp; omega)) _ | refine Below.setCell ?_ (show _ ≤ _ by first | omega | (simp; omega)) _))), by with_reducible (repeat (first | exact Aside0.out HG5 | exact World.grownBy.refl _ _ | refine grown_drew ?_ | refine grown_alloc ?_ _ | refine grown_new ?_ (by first | exact Nat.le_refl _ | omega | (simp; omega)) _))⟩
end Go.Proofs.Ytioooiflpabngaa.PAll
end
section
namespace Go.Proofs.Ytioooiflpabngaa.PAll
open Go.RowKit Go.Proofs.YtioooiflpabngaaW.PrintWords Go.Proofs.YtioooiflpabngaaW.PrintLast Go.Proofs.YtioooiflpabngaaW.PrintMore
set_option linter.unusedVariables false
set_option linter.unusedSimpArgs false
theorem bRd_len (l : List Int) (bad : Bool) (most : Int) : (bRd l bad most).2.1.length ≤ l.length := by
  have h := iRd_len l bad most
  unfold bRd
  split
  · exact h
  · simp only [List.length_drop]
    omega
def eRd (l : List Int) (bad : Bool) : S32 × Bool × List Int × Bool :=
  (⟨(lRd l bad).1, (bRd (lRd l bad).2.2.1 (lRd l bad).2.2.2 64).1⟩, (lRd l bad).2.1 && !(bRd (lRd l bad).2.2.1 (lRd l bad).2.2.2 64).2.2, (bRd (lRd l bad).2.2.1 (lRd l bad).2.2.2 64).2)
theorem eRd_len (l : List Int) (bad : Bool) : (eRd l bad).2.2.1.length ≤ l.length :=
  Nat.le_trans (bRd_len _ _ _) (lRd_len l bad)
theorem step_callG {P : Program} {w : World} {ops : Array Oper} {o : Oper} {a : Act} {K : Act → World → Prop} {Q : Exit → Act → World → Prop} {E : Prop} (hw : Region.wanted o (yielded ops a.tmps) = true) {f : FuncId} {fn : Func} {as_ : Array Operand} {ts : Array TypeId} (hf : P.funcs[f]? = some fn) (hname : (fn.name == "runtime.NumGoroutine") = false) (hb : fn.body.isSome = true) (args : Array Value)
    (hop : o.op = .call { callee := .value (.func f), args := as_, argTypes := ts }) (hargs : as_.map a.eval = args)
    (h : Calls P f args w fun e w' => ∃ v, e = .returned v ∧ K (a.put o.dst v) w') : if Region.wanted o (yielded ops a.tmps) = true then Oper.wp P o a w K Q else E := by
  have h2 := goes_ (ops := ops) (Q := Q) (K := K) (N := o.dst) hf hname hb args hw rfl hop hargs h
  rw [if_pos hw] at h2 ⊢
  exact h2
theorem blk_put5 {w : World} {g : Nat} {a b c d f : Value} {t : TypeId} (h : w.heap[g]? = some (.cells #[a, b, c, d, f] t (0, 0))) (a' b' c' d' f' : Value) : (((((w.setCell ⟨g, 0, none⟩ a').setCell ⟨g, 1, none⟩ b').setCell ⟨g, 2, none⟩ c').setCell ⟨g, 3, none⟩ d').setCell ⟨g, 4, none⟩ f').heap[g]? = some (.cells #[a', b', c', d', f'] t (0, 0)) :=
  blk_put (cs := #[a', b', c', d', f]) (blk_put (cs := #[a', b', c', d, f]) (blk_put (cs := #[a', b', c, d, f]) (blk_put (cs := #[a', b, c, d, f]) (blk_put (cs := #[a, b, c, d, f]) h 0 a' rfl) 1 b' rfl) 2 c' rfl) 3 d' rfl) 4 f' rfl
set_option maxHeartbeats 4000000 in
set_option maxRecDepth 100000 in
theorem read_Entry (g : Nat) (l : List Int) (bad : Bool) (w : World) (h : Rd w g l bad) (hl : l.length < 4398046511104) :
    Calls Try.prog 95 #[.pointer (some ⟨g, 0, none⟩)] w fun e w' => ∃ v, e = .returned (.tuple #[.agg #[.int .u64 (eRd l bad).1.f0.f0.f0, .int .i64 (eRd l bad).1.f0.f0.f1, .int .u64 (eRd l bad).1.f0.f1, .int .i64 (eRd l bad).1.f0.f2, v], .bool (eRd l bad).2.1]) ∧ Kd.R (Kd.int .u8) 5 w' w.heap.size (fun k => w.heap.size < k) v (eRd l bad).1.f1 ∧ Rd w' g (eRd l bad).2.2.1 (eRd l bad).2.2.2 ∧ w.grownBy w' (some g) := by
  have hcall := fun W hW => read_Label g l bad W hW hl
  have hln := lRd_len l bad
  have hgl := h.lt
  have hne : some w.heap.size ≠ some g := by simp; omega
  unfold eRd
  obtain ⟨⟨⟨⟨n, p⟩, q, s⟩, ok, t, b⟩, hv⟩ : ∃ u, lRd l bad = u := ⟨_, rfl⟩
  rw [hv] at hcall hln ⊢
  simp only at hcall hln ⊢
  have hcall2 := fun W hW => read_Bytes g t b 64 W hW (by omega) (by decide) (by decide)
  obtain ⟨⟨m, t2, b2⟩, hu⟩ : ∃ u, bRd t b 64 = u := ⟨_, rfl⟩
  rw [hu] at hcall2 ⊢
  simp only at hcall2 ⊢
  have HL := Aside0.mk hl
  have HR := Aside0.mk h
  clear h hl hv hu
  have hmo : Try.prog.follows .mixedOrders = true := by kernel_rfl
  go_enter Try.func95, Try.ntmps95
  go_upto_region 3 with (first
    | (go_at_call 98; refine (hcall _ (HR.out.keep (by with_reducible (repeat (first | exact Aside0.out HR | exact Below.refl _ _ | refine Below.drew ?_ | refine Below.alloc ?_ (by first | omega | (simp; done) | (simp; omega)) _ | refine Below.setCell ?_ (show _ ≤ _ by first | omega | (simp; omega)) _))))).mono ?_; rintro e w2 ⟨rfl, hR, hg⟩; have HR2 := Aside0.mk hR; have HG2 := Aside0.mk (grown_trans (grown_alloc (World.grownBy.refl _ _) _) hg); have HB2 := Aside0.mk (blk_grown (blk_new w _) hg hne); have hlt2 := HG2.out.size; have hlr2 := blk_lt HB2.out; clear hR hg)
    | (go_at_call 119; refine (hcall2 _ (HR2.out.keep (by with_reducible (repeat (first | exact Aside0.out HR2 | exact Below.refl _ _ | refine Below.drew ?_ | refine Below.alloc ?_ (by first | omega | (simp; done) | (simp; omega)) _ | refine Below.setCell ?_ (show _ ≤ _ by first | omega | (simp; omega)) _))))).mono ?_; rintro e w3 ⟨v, rfl, hm, hR, hg⟩; obtain ⟨Am, cm, rfl⟩ := Kd.R_slice hm; have HM3 := Aside0.mk (show Kd.R (Kd.int .u8) 5 w3 w.heap.size (fun k => w.heap.size < k) (.slice Am m.length cm) m from Kd.R_lower (Kd.R_mono (Kd.R_bound hm) (fun k hk => by have := hk.2.1; simp only [World.size_alloc] at this; omega)) (by simp only [World.size_alloc]; omega)); have HR3 := Aside0.mk hR; have HG3 := Aside0.mk (grown_trans (grown_alloc HG2.out _) hg); have HB3 := Aside0.mk (blk_grown (blk_alloc HB2.out _) hg hne); have HL3 := Aside0.mk (blk_grown (blk_new w2 _) hg (by simp; omega)); clear hm hR hg))
  obtain ⟨ha0, ha1, ha2, ha3, ha4, hb0, hb1, hb2, hb3, hb4, hal⟩ := blk5 HB3.out
  obtain ⟨hm0, hm1, hm2, hm3, hn0, hn1, hn2, hn3, hml⟩ := blk4 HL3.out
  clear hcall hcall2
  cases ok
  · go_region
    all_goals go_wp2_with fail
    all_goals refine bodyPost_ret (results_ct rfl _ _ w.heap.size 32 #[.int .u64 n, .int .i64 p, .int .u64 q, .int .i64 s, .slice Am m.length cm] (0, 0) _ rfl (by first | exact blk_put5 (blk_drew HB3.out) _ _ _ _ _ | exact blk_put5 HB3.out _ _ _ _ _) Try.underlying32 rfl (by kernel_rfl)) rfl ?_
    all_goals refine ⟨_, by first | rfl | simp [Act.put], ?_, HR3.out.keep (by with_reducible (repeat (first | exact Aside0.out HR3 | exact Below.refl _ _ | refine Below.drew ?_ | refine Below.alloc ?_ (by first | omega | (simp; done) | (simp; omega)) _ | refine Below.setCell ?_ (show _ ≤ _ by first | omega | (simp; omega)) _))), by with_reducible (repeat (first | exact Aside0.out HG3 | exact World.grownBy.refl _ _ | refine grown_drew ?_ | refine grown_alloc ?_ _ | refine grown_new ?_ (by first | exact Nat.le_refl _ | omega | (simp; omega)) _))⟩
    all_goals (with_reducible repeat (first | exact HM3.out | refine Kd.R_drew ?_ | refine Kd.R_far ?_ (fun k hk => Nat.ne_of_gt hk) _ | refine Kd.R_alloc ?_ _))
  · go_region_law_o (first | (refine step_callG (by rfl) (f := 120) Try.func120 (by kernel_rfl) rfl #[.pointer (some ⟨g, 0, none⟩)] rfl (by simp [Act.eval, Act.put]) ?_; refine (read_Bad _ _ _ _ (HR3.out.keep (by with_reducible (repeat (first | exact Aside0.out HR3 | exact Below.refl _ _ | refine Below.drew ?_ | refine Below.alloc ?_ (by first | omega | (simp; done) | (simp; omega)) _ | refine Below.setCell ?_ (show _ ≤ _ by first | omega | (simp; omega)) _))))).mono ?_; rintro e w5 ⟨rfl, rfl⟩; refine ⟨_, rfl, ?_⟩))
    all_goals go_wp2_with fail
    all_goals refine bodyPost_ret (results_ct rfl _ _ w.heap.size 32 #[.int .u64 n, .int .i64 p, .int .u64 q, .int .i64 s, .slice Am m.length cm] (0, 0) _ rfl (by first | exact blk_put5 (blk_drew HB3.out) _ _ _ _ _ | exact blk_put5 HB3.out _ _ _ _ _) Try.underlying32 rfl (by kernel_rfl)) rfl ?_
    all_goals refine ⟨_, by first | rfl | simp [Act.put], ?_, HR3.out.keep (by with_reducible (repeat (first | exact Aside0.out HR3 | exact Below.refl _ _ | refine Below.drew ?_ | refine Below.alloc ?_ (by first | omega | (simp; done) | (simp; omega)) _ | refine Below.setCell ?_ (show _ ≤ _ by first | omega | (simp; omega)) _))), by with_reducible (repeat (first | exact Aside0.out HG3 | exact World.grownBy.refl _ _ | refine grown_drew ?_ | refine grown_alloc ?_ _ | refine grown_new ?_ (by first | exact Nat.le_refl _ | omega | (simp; omega)) _))⟩
    all_goals (with_reducible repeat (first | exact HM3.out | refine Kd.R_drew ?_ | refine Kd.R_far ?_ (fun k hk => Nat.ne_of_gt hk) _ | refine Kd.R_alloc ?_ _))
end Go.Proofs.Ytioooiflpabngaa.PAll
end
