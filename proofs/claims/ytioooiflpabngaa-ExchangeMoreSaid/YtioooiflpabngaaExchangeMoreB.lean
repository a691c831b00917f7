/- Parts: PAllx0, HShort, HPure, HOrder, PAllx1, PAllx12, PAllx13, PAllx2, PAllx11, EBase, PAllx15, PAllx16, PAllx17, PAllx18, PAllx19, PAllx20, PAllx21, HCompare, ECompare, PAllx30, ESame, PAllx83, PAllx84, PAllx85, PAllx87, ETell, ELabels, PAllx37, ESort. -/
import Derived.Test.YtioooiflpabngaaProg
import Derived.Below
import Derived.Deep.Draws
import Derived.Deep.AppendLies
import Derived.Maps.AppendAt
import Derived.OwnWalk
import Derived.Laws.BytesArg
import Derived.Laws.MakeOwn
import Derived.Laws.OwnMore
import Derived.Deep.OwnRows
import Derived.Tactics
import Derived.Lib.ConvBytes
import Derived.Laws.Slices
import Derived.WalkKit
import Derived.KernelRfl
import Derived.RowKit3
import Derived.Deep.LoopGhost
import Derived.Deep.QuietTactic
import Derived.BigQuiet
import Derived.WideLaws
import Derived.Deep.DeepCutAuto
import Derived.Deep.CutBlock
import Derived.Deep.RegionHeld3
import Derived.Laws.Rows
import Derived.Lib.AppendStr
import Derived.ArgAppend
import Derived.Laws.IdiomCopy
import Derived.OrdersHeld
import Derived.Laws.BitsLemmas
import Derived.RowKit
import Derived.Test.YtioooiflpabngaaExchangeMoreA
set_option linter.unusedVariables false
set_option linter.unusedSimpArgs false
section
namespace Go.Proofs.Ytioooiflpabngaa.PAll
open Go.RowKit Go.Proofs.YtioooiflpabngaaW.PrintWords Go.Proofs.YtioooiflpabngaaW.PrintLast Go.Proofs.YtioooiflpabngaaW.PrintMore
attribute [local go_sem] max2_int min2_int max_two min_two max_three min_three max_four min_four   -- for this text's walks alone
set_option linter.unusedVariables false
set_option linter.unusedSimpArgs false
def errW : Option Int → Value
  | none => .nilIface
  | some c => .iface 0 (.int .i64 c)
theorem errW_none : errW none = .nilIface := rfl
theorem errW_some (c : Int) : errW (some c) = .iface 0 (.int .i64 c) := rfl
theorem info3 : (Try.prog.info? 3).map (fun i => (i.zero, i.size, i.bytes)) = some (some (.int .i64 0), 1, 8) := by kernel_rfl
theorem info5 : (Try.prog.info? 5).map (fun i => (i.zero, i.size, i.bytes)) = some (some (.int .u8 0), 1, 1) := by kernel_rfl
theorem info27 : (Try.prog.info? 27).map (fun i => (i.zero, i.size, i.bytes)) = some (some (.agg #[(.int .u64 0), (.int .i64 0), (.int .u64 0), (.int .i64 0)]), 4, 32) := by kernel_rfl
theorem info32 : (Try.prog.info? 32).map (fun i => (i.zero, i.size, i.bytes)) = some (some (.agg #[(.int .u64 0), (.int .i64 0), (.int .u64 0), (.int .i64 0), (.slice none 0 0)]), 5, 56) := by kernel_rfl
theorem info53 : (Try.prog.info? 53).map (fun i => (i.zero, i.size, i.bytes)) = some (some (.agg #[(.slice none 0 0), (.slice none 0 0), (.int .i64 0), (.int .u64 0), (.int .i64 0)]), 5, 72) := by kernel_rfl
theorem info87 : (Try.prog.info? 87).map (fun i => (i.zero, i.size, i.bytes)) = some (some (.agg #[(.int .i64 0), (.slice none 0 0), (.slice none 0 0), (.int .i64 0), (.int .u64 0), (.int .i64 0)]), 6, 80) := by kernel_rfl
section
variable {P : Program} {ops : Array Oper} {Q : Exit → Act → World → Prop}
theorem goesV_ {oi : Oper} {N : Option Tmp} {a : Act} {w : World} {K : Act → World → Prop} {f : FuncId} {fn : Func} {as_ : Array Operand} {ts : Array TypeId} {t : Tmp} (hf : P.funcs[f]? = some fn) (hname : (fn.name == "runtime.NumGoroutine") = false) (hb : fn.body.isSome = true) (args : Array Value)
    (hw : Region.wanted oi (yielded ops a.tmps) = true) (hN : oi.dst = N) (hop : oi.op = .call { callee := .value (.tmp t), args := as_, argTypes := ts }) (hv : a.eval (.tmp t) = .func (.func f) #[] #[]) (hargs : as_.map a.eval = args)
    (h : Calls P f args w fun e w' => ∃ v, e = .returned v ∧ K (a.put N v) w') : if Region.wanted oi (yielded ops a.tmps) = true then Oper.wp P oi a w K Q else K (a.put N undef) w := by
  refine call_ f args hw hN ?_ h
  have he := enters_ hf hname hb args w
  unfold execOp
  simp [hop, resolve, hv, Deferred.ofValue, invoke, hargs, he]
end
structure S25 where
  f0 : Int
  f1 : Int
def z25 : S25 := ⟨(0 : Int), (0 : Int)⟩
def k25 : Kd S25 := Kd.iso (Kd.pair (Kd.int .u64) (Kd.int .i64)) (fun x : S25 => (x.f0, x.f1))
theorem k25_heap : Kd.Heap k25 := Kd.heap_iso _ (Kd.heap_pair (Kd.heap_int .u64) (Kd.heap_int .i64))
theorem k25_open {w : World} {x : S25} {cs : List Value} (h : k25.K w x cs) : cs = [.int .u64 x.f0, .int .i64 x.f1] := by
  obtain ⟨_, _, rfl, rfl, rfl⟩ := h
  exact rfl
theorem k25_openM {w : World} {base : Nat} {ok : Nat → Prop} {x : S25} {cs : List Value} (h : k25.M w base ok x cs) : cs = [.int .u64 x.f0, .int .i64 x.f1] := by
  obtain ⟨_, _, rfl, rfl, rfl⟩ := h
  exact rfl
theorem k25_mk (w : World) (x : S25)  : k25.K w x [.int .u64 x.f0, .int .i64 x.f1] := ⟨[.int .u64 x.f0], [.int .i64 x.f1], rfl, rfl, rfl⟩
theorem k25_mkM (w : World) (base : Nat) (ok : Nat → Prop) (x : S25)  : k25.M w base ok x [.int .u64 x.f0, .int .i64 x.f1] := ⟨[.int .u64 x.f0], [.int .i64 x.f1], rfl, rfl, rfl⟩
structure S27 where
  f0 : S25
  f1 : Int
  f2 : Int
def z27 : S27 := ⟨z25, (0 : Int), (0 : Int)⟩
def k27 : Kd S27 := Kd.iso (Kd.pair k25 (Kd.pair (Kd.int .u64) (Kd.int .i64))) (fun x : S27 => (x.f0, x.f1, x.f2))
theorem k27_heap : Kd.Heap k27 := Kd.heap_iso _ (Kd.heap_pair k25_heap (Kd.heap_pair (Kd.heap_int .u64) (Kd.heap_int .i64)))
theorem k27_open {w : World} {x : S27} {cs : List Value} (h : k27.K w x cs) : cs = [.int .u64 x.f0.f0, .int .i64 x.f0.f1, .int .u64 x.f1, .int .i64 x.f2] := by
  obtain ⟨_, _, rfl, s0, ⟨_, _, rfl, rfl, rfl⟩⟩ := h
  obtain rfl := k25_open s0
  exact rfl
theorem k27_openM {w : World} {base : Nat} {ok : Nat → Prop} {x : S27} {cs : List Value} (h : k27.M w base ok x cs) : cs = [.int .u64 x.f0.f0, .int .i64 x.f0.f1, .int .u64 x.f1, .int .i64 x.f2] := by
  obtain ⟨_, _, rfl, s0, ⟨_, _, rfl, rfl, rfl⟩⟩ := h
  obtain rfl := k25_openM s0
  exact rfl
theorem k27_mk (w : World) (x : S27)  : k27.K w x [.int .u64 x.f0.f0, .int .i64 x.f0.f1, .int .u64 x.f1, .int .i64 x.f2] := ⟨[.int .u64 x.f0.f0, .int .i64 x.f0.f1], [.int .u64 x.f1, .int .i64 x.f2], rfl, (k25_mk w x.f0 ), ⟨[.int .u64 x.f1], [.int .i64 x.f2], rfl, rfl, rfl⟩⟩
theorem k27_mkM (w : World) (base : Nat) (ok : Nat → Prop) (x : S27)  : k27.M w base ok x [.int .u64 x.f0.f0, .int .i64 x.f0.f1, .int .u64 x.f1, .int .i64 x.f2] := ⟨[.int .u64 x.f0.f0, .int .i64 x.f0.f1], [.int .u64 x.f1, .int .i64 x.f2], rfl, (k25_mkM w base ok x.f0 ), ⟨[.int .u64 x.f1], [.int .i64 x.f2], rfl, rfl, rfl⟩⟩
def rd_T27 (xs : List S27) (i : Int) : S27 := xs.getD i.toNat z27
theorem at_T27 {w : World} {A : Option Addr} {n : Nat} {xs : List S27} (h : Kd.C k27 w A n xs) (i : Int) (h0 : 0 ≤ i) (h1 : i < n) : ∃ ad , A = some ad ∧ w.cell? (ad.add (i.toNat * 4)) = some (.int .u64 (rd_T27 xs i).f0.f0) ∧ w.cell? ⟨(ad.add (i.toNat * 4)).block, (ad.add (i.toNat * 4)).off + 1, none⟩ = some (.int .i64 (rd_T27 xs i).f0.f1) ∧ w.cell? ⟨(ad.add (i.toNat * 4)).block, (ad.add (i.toNat * 4)).off + 2, none⟩ = some (.int .u64 (rd_T27 xs i).f1) ∧ w.cell? ⟨(ad.add (i.toNat * 4)).block, (ad.add (i.toNat * 4)).off + 3, none⟩ = some (.int .i64 (rd_T27 xs i).f2) := by
  obtain ⟨ad, c, e, _, hK, hc0⟩ := Kd.C_get h z27 i h0 h1
  have hc : ∀ j u, c[j]? = some u → w.cell? (ad.add (i.toNat * 4 + j)) = some u := hc0
  obtain rfl := k27_open hK
  exact ⟨ad, e, hc 0 _ rfl, by rw [← add_field _ _ 1 (by omega)]; exact hc 1 _ rfl, by rw [← add_field _ _ 2 (by omega)]; exact hc 2 _ rfl, by rw [← add_field _ _ 3 (by omega)]; exact hc 3 _ rfl⟩
structure S32 where
  f0 : S27
  f1 : (List Int)
def z32 : S32 := ⟨z27, ([] : List Int)⟩
def k32 : Kd S32 := Kd.iso (Kd.pair k27 (Kd.slice 5 (Kd.int .u8))) (fun x : S32 => (x.f0, x.f1))
theorem k32_heap : Kd.Heap k32 := Kd.heap_iso _ (Kd.heap_pair k27_heap (Kd.heap_slice 5 (Kd.heap_int .u8)))
theorem k32_open {w : World} {x : S32} {cs : List Value} (h : k32.K w x cs) : ∃ A4 c4, cs = [.int .u64 x.f0.f0.f0, .int .i64 x.f0.f0.f1, .int .u64 x.f0.f1, .int .i64 x.f0.f2, .slice A4 x.f1.length c4] ∧ x.f1.length ≤ c4 ∧ (Kd.int .u8).C w A4 x.f1.length x.f1 := by
  obtain ⟨_, _, rfl, s0, ⟨A4, c4, rfl, l4, g4⟩⟩ := h
  obtain rfl := k27_open s0
  exact ⟨A4, c4, rfl, l4, g4⟩
theorem k32_mk (w : World) (x : S32) {A4 : Option Addr} {c4 : Nat} (l4 : x.f1.length ≤ c4) (g4 : (Kd.int .u8).C w A4 x.f1.length x.f1) : k32.K w x [.int .u64 x.f0.f0.f0, .int .i64 x.f0.f0.f1, .int .u64 x.f0.f1, .int .i64 x.f0.f2, .slice A4 x.f1.length c4] := ⟨[.int .u64 x.f0.f0.f0, .int .i64 x.f0.f0.f1, .int .u64 x.f0.f1, .int .i64 x.f0.f2], [.slice A4 x.f1.length c4], rfl, (k27_mk w x.f0 ), ⟨A4, c4, rfl, l4, g4⟩⟩
theorem k32_openF {W : World} {ok : Nat → Prop} {x : S32} {cs : List Value} (h : Kd.FK k32 W ok x cs) : ∃ A4 c4, cs = [.int .u64 x.f0.f0.f0, .int .i64 x.f0.f0.f1, .int .u64 x.f0.f1, .int .i64 x.f0.f2, .slice A4 x.f1.length c4] ∧ x.f1.length ≤ c4 ∧ Kd.F (Kd.int .u8) W ok A4 x.f1.length x.f1 := by
  obtain ⟨A4, c4, rfl, l4, _⟩ := k32_open (Kd.FK_now h)
  exact ⟨A4, c4, rfl, l4, (fun W' hW => by obtain ⟨A4_, c4_, he, l4_, g4_⟩ := k32_open (h W' hW); injection (Option.some.inj (show some (Value.slice A4 x.f1.length c4) = some (Value.slice A4_ x.f1.length c4_) from congrArg (fun l => l[4]?) he)) with ha_ _ _; rw [ha_]; exact g4_)⟩
theorem k32_mkF (W : World) (ok : Nat → Prop) (x : S32) {A4 : Option Addr} {c4 : Nat} (l4 : x.f1.length ≤ c4) (g4 : Kd.F (Kd.int .u8) W ok A4 x.f1.length x.f1) : Kd.FK k32 W ok x [.int .u64 x.f0.f0.f0, .int .i64 x.f0.f0.f1, .int .u64 x.f0.f1, .int .i64 x.f0.f2, .slice A4 x.f1.length c4] := fun W2 hW => k32_mk W2 x l4 (g4 W2 hW)
def rd_T32 (xs : List S32) (i : Int) : S32 := xs.getD i.toNat z32
theorem at_T32 {w : World} {A : Option Addr} {n : Nat} {xs : List S32} (h : Kd.C k32 w A n xs) (i : Int) (h0 : 0 ≤ i) (h1 : i < n) : ∃ ad A4 c4, A = some ad ∧ w.cell? (ad.add (i.toNat * 5)) = some (.int .u64 (rd_T32 xs i).f0.f0.f0) ∧ w.cell? ⟨(ad.add (i.toNat * 5)).block, (ad.add (i.toNat * 5)).off + 1, none⟩ = some (.int .i64 (rd_T32 xs i).f0.f0.f1) ∧ w.cell? ⟨(ad.add (i.toNat * 5)).block, (ad.add (i.toNat * 5)).off + 2, none⟩ = some (.int .u64 (rd_T32 xs i).f0.f1) ∧ w.cell? ⟨(ad.add (i.toNat * 5)).block, (ad.add (i.toNat * 5)).off + 3, none⟩ = some (.int .i64 (rd_T32 xs i).f0.f2) ∧ w.cell? ⟨(ad.add (i.toNat * 5)).block, (ad.add (i.toNat * 5)).off + 4, none⟩ = some (.slice A4 (rd_T32 xs i).f1.length c4) ∧ (rd_T32 xs i).f1.length ≤ c4 ∧ (Kd.int .u8).C w A4 (rd_T32 xs i).f1.length (rd_T32 xs i).f1 := by
  obtain ⟨ad, c, e, _, hK, hc0⟩ := Kd.C_get h z32 i h0 h1
  have hc : ∀ j u, c[j]? = some u → w.cell? (ad.add (i.toNat * 5 + j)) = some u := hc0
  obtain ⟨A4, c4, rfl, l4, g4⟩ := k32_open hK
  exact ⟨ad, A4, c4, e, hc 0 _ rfl, by rw [← add_field _ _ 1 (by omega)]; exact hc 1 _ rfl, by rw [← add_field _ _ 2 (by omega)]; exact hc 2 _ rfl, by rw [← add_field _ _ 3 (by omega)]; exact hc 3 _ rfl, by rw [← add_field _ _ 4 (by omega)]; exact hc 4 _ rfl, l4, g4⟩
structure S53 where
  f0 : (List S32)
  f1 : (List S27)
  f2 : Int
  f3 : S25
def z53 : S53 := ⟨([] : List S32), ([] : List S27), (0 : Int), z25⟩
def k53 : Kd S53 := Kd.iso (Kd.pair (Kd.slice 32 k32) (Kd.pair (Kd.slice 27 k27) (Kd.pair (Kd.int .i64) k25))) (fun x : S53 => (x.f0, x.f1, x.f2, x.f3))
theorem k53_heap : Kd.Heap k53 := Kd.heap_iso _ (Kd.heap_pair (Kd.heap_slice 32 k32_heap) (Kd.heap_pair (Kd.heap_slice 27 k27_heap) (Kd.heap_pair (Kd.heap_int .i64) k25_heap)))
theorem k53_open {w : World} {x : S53} {cs : List Value} (h : k53.K w x cs) : ∃ A0 c0 A1 c1, cs = [.slice A0 x.f0.length c0, .slice A1 x.f1.length c1, .int .i64 x.f2, .int .u64 x.f3.f0, .int .i64 x.f3.f1] ∧ x.f0.length ≤ c0 ∧ k32.C w A0 x.f0.length x.f0 ∧ x.f1.length ≤ c1 ∧ k27.C w A1 x.f1.length x.f1 := by
  obtain ⟨_, _, rfl, ⟨A0, c0, rfl, l0, g0⟩, ⟨_, _, rfl, ⟨A1, c1, rfl, l1, g1⟩, ⟨_, _, rfl, rfl, s3⟩⟩⟩ := h
  obtain rfl := k25_open s3
  exact ⟨A0, c0, A1, c1, rfl, l0, g0, l1, g1⟩
theorem k53_mk (w : World) (x : S53) {A0 : Option Addr} {c0 : Nat} (l0 : x.f0.length ≤ c0) (g0 : k32.C w A0 x.f0.length x.f0) {A1 : Option Addr} {c1 : Nat} (l1 : x.f1.length ≤ c1) (g1 : k27.C w A1 x.f1.length x.f1) : k53.K w x [.slice A0 x.f0.length c0, .slice A1 x.f1.length c1, .int .i64 x.f2, .int .u64 x.f3.f0, .int .i64 x.f3.f1] := ⟨[.slice A0 x.f0.length c0], [.slice A1 x.f1.length c1, .int .i64 x.f2, .int .u64 x.f3.f0, .int .i64 x.f3.f1], rfl, ⟨A0, c0, rfl, l0, g0⟩, ⟨[.slice A1 x.f1.length c1], [.int .i64 x.f2, .int .u64 x.f3.f0, .int .i64 x.f3.f1], rfl, ⟨A1, c1, rfl, l1, g1⟩, ⟨[.int .i64 x.f2], [.int .u64 x.f3.f0, .int .i64 x.f3.f1], rfl, rfl, (k25_mk w x.f3 )⟩⟩⟩
theorem k53_openF {W : World} {ok : Nat → Prop} {x : S53} {cs : List Value} (h : Kd.FK k53 W ok x cs) : ∃ A0 c0 A1 c1, cs = [.slice A0 x.f0.length c0, .slice A1 x.f1.length c1, .int .i64 x.f2, .int .u64 x.f3.f0, .int .i64 x.f3.f1] ∧ x.f0.length ≤ c0 ∧ Kd.F k32 W ok A0 x.f0.length x.f0 ∧ x.f1.length ≤ c1 ∧ Kd.F k27 W ok A1 x.f1.length x.f1 := by
  obtain ⟨A0, c0, A1, c1, rfl, l0, _, l1, _⟩ := k53_open (Kd.FK_now h)
  exact ⟨A0, c0, A1, c1, rfl, l0, (fun W' hW => by obtain ⟨A0_, c0_, A1_, c1_, he, l0_, g0_, l1_, g1_⟩ := k53_open (h W' hW); injection (Option.some.inj (show some (Value.slice A0 x.f0.length c0) = some (Value.slice A0_ x.f0.length c0_) from congrArg (fun l => l[0]?) he)) with ha_ _ _; rw [ha_]; exact g0_), l1, (fun W' hW => by obtain ⟨A0_, c0_, A1_, c1_, he, l0_, g0_, l1_, g1_⟩ := k53_open (h W' hW); injection (Option.some.inj (show some (Value.slice A1 x.f1.length c1) = some (Value.slice A1_ x.f1.length c1_) from congrArg (fun l => l[1]?) he)) with ha_ _ _; rw [ha_]; exact g1_)⟩
theorem k53_mkF (W : World) (ok : Nat → Prop) (x : S53) {A0 : Option Addr} {c0 : Nat} (l0 : x.f0.length ≤ c0) (g0 : Kd.F k32 W ok A0 x.f0.length x.f0) {A1 : Option Addr} {c1 : Nat} (l1 : x.f1.length ≤ c1) (g1 : Kd.F k27 W ok A1 x.f1.length x.f1) : Kd.FK k53 W ok x [.slice A0 x.f0.length c0, .slice A1 x.f1.length c1, .int .i64 x.f2, .int .u64 x.f3.f0, .int .i64 x.f3.f1] := fun W2 hW => k53_mk W2 x l0 (g0 W2 hW) l1 (g1 W2 hW)
def rd_T53 (xs : List S53) (i : Int) : S53 := xs.getD i.toNat z53
theorem at_T53 {w : World} {A : Option Addr} {n : Nat} {xs : List S53} (h : Kd.C k53 w A n xs) (i : Int) (h0 : 0 ≤ i) (h1 : i < n) : ∃ ad A0 c0 A1 c1, A = some ad ∧ w.cell? (ad.add (i.toNat * 5)) = some (.slice A0 (rd_T53 xs i).f0.length c0) ∧ w.cell? ⟨(ad.add (i.toNat * 5)).block, (ad.add (i.toNat * 5)).off + 1, none⟩ = some (.slice A1 (rd_T53 xs i).f1.length c1) ∧ w.cell? ⟨(ad.add (i.toNat * 5)).block, (ad.add (i.toNat * 5)).off + 2, none⟩ = some (.int .i64 (rd_T53 xs i).f2) ∧ w.cell? ⟨(ad.add (i.toNat * 5)).block, (ad.add (i.toNat * 5)).off + 3, none⟩ = some (.int .u64 (rd_T53 xs i).f3.f0) ∧ w.cell? ⟨(ad.add (i.toNat * 5)).block, (ad.add (i.toNat * 5)).off + 4, none⟩ = some (.int .i64 (rd_T53 xs i).f3.f1) ∧ (rd_T53 xs i).f0.length ≤ c0 ∧ k32.C w A0 (rd_T53 xs i).f0.length (rd_T53 xs i).f0 ∧ (rd_T53 xs i).f1.length ≤ c1 ∧ k27.C w A1 (rd_T53 xs i).f1.length (rd_T53 xs i).f1 := by
  obtain ⟨ad, c, e, _, hK, hc0⟩ := Kd.C_get h z53 i h0 h1
  have hc : ∀ j u, c[j]? = some u → w.cell? (ad.add (i.toNat * 5 + j)) = some u := hc0
  obtain ⟨A0, c0, A1, c1, rfl, l0, g0, l1, g1⟩ := k53_open hK
  exact ⟨ad, A0, c0, A1, c1, e, hc 0 _ rfl, by rw [← add_field _ _ 1 (by omega)]; exact hc 1 _ rfl, by rw [← add_field _ _ 2 (by omega)]; exact hc 2 _ rfl, by rw [← add_field _ _ 3 (by omega)]; exact hc 3 _ rfl, by rw [← add_field _ _ 4 (by omega)]; exact hc 4 _ rfl, l0, g0, l1, g1⟩
structure S87 where
  f0 : Int
  f1 : S53
def z87 : S87 := ⟨(0 : Int), z53⟩
def k87 : Kd S87 := Kd.iso (Kd.pair (Kd.int .i64) k53) (fun x : S87 => (x.f0, x.f1))
theorem k87_heap : Kd.Heap k87 := Kd.heap_iso _ (Kd.heap_pair (Kd.heap_int .i64) k53_heap)
theorem k87_open {w : World} {x : S87} {cs : List Value} (h : k87.K w x cs) : ∃ A1 c1 A2 c2, cs = [.int .i64 x.f0, .slice A1 x.f1.f0.length c1, .slice A2 x.f1.f1.length c2, .int .i64 x.f1.f2, .int .u64 x.f1.f3.f0, .int .i64 x.f1.f3.f1] ∧ x.f1.f0.length ≤ c1 ∧ k32.C w A1 x.f1.f0.length x.f1.f0 ∧ x.f1.f1.length ≤ c2 ∧ k27.C w A2 x.f1.f1.length x.f1.f1 := by
  obtain ⟨_, _, rfl, rfl, s1⟩ := h
  obtain ⟨A1, c1, A2, c2, rfl, l1, g1, l2, g2⟩ := k53_open s1
  exact ⟨A1, c1, A2, c2, rfl, l1, g1, l2, g2⟩
theorem k87_mk (w : World) (x : S87) {A1 : Option Addr} {c1 : Nat} (l1 : x.f1.f0.length ≤ c1) (g1 : k32.C w A1 x.f1.f0.length x.f1.f0) {A2 : Option Addr} {c2 : Nat} (l2 : x.f1.f1.length ≤ c2) (g2 : k27.C w A2 x.f1.f1.length x.f1.f1) : k87.K w x [.int .i64 x.f0, .slice A1 x.f1.f0.length c1, .slice A2 x.f1.f1.length c2, .int .i64 x.f1.f2, .int .u64 x.f1.f3.f0, .int .i64 x.f1.f3.f1] := ⟨[.int .i64 x.f0], [.slice A1 x.f1.f0.length c1, .slice A2 x.f1.f1.length c2, .int .i64 x.f1.f2, .int .u64 x.f1.f3.f0, .int .i64 x.f1.f3.f1], rfl, rfl, (k53_mk w x.f1 l1 g1 l2 g2)⟩
theorem k87_openF {W : World} {ok : Nat → Prop} {x : S87} {cs : List Value} (h : Kd.FK k87 W ok x cs) : ∃ A1 c1 A2 c2, cs = [.int .i64 x.f0, .slice A1 x.f1.f0.length c1, .slice A2 x.f1.f1.length c2, .int .i64 x.f1.f2, .int .u64 x.f1.f3.f0, .int .i64 x.f1.f3.f1] ∧ x.f1.f0.length ≤ c1 ∧ Kd.F k32 W ok A1 x.f1.f0.length x.f1.f0 ∧ x.f1.f1.length ≤ c2 ∧ Kd.F k27 W ok A2 x.f1.f1.length x.f1.f1 := by
  obtain ⟨A1, c1, A2, c2, rfl, l1, _, l2, _⟩ := k87_open (Kd.FK_now h)
  exact ⟨A1, c1, A2, c2, rfl, l1, (fun W' hW => by obtain ⟨A1_, c1_, A2_, c2_, he, l1_, g1_, l2_, g2_⟩ := k87_open (h W' hW); injection (Option.some.inj (show some (Value.slice A1 x.f1.f0.length c1) = some (Value.slice A1_ x.f1.f0.length c1_) from congrArg (fun l => l[1]?) he)) with ha_ _ _; rw [ha_]; exact g1_), l2, (fun W' hW => by obtain ⟨A1_, c1_, A2_, c2_, he, l1_, g1_, l2_, g2_⟩ := k87_open (h W' hW); injection (Option.some.inj (show some (Value.slice A2 x.f1.f1.length c2) = some (Value.slice A2_ x.f1.f1.length c2_) from congrArg (fun l => l[2]?) he)) with ha_ _ _; rw [ha_]; exact g2_)⟩
theorem k87_mkF (W : World) (ok : Nat → Prop) (x : S87) {A1 : Option Addr} {c1 : Nat} (l1 : x.f1.f0.length ≤ c1) (g1 : Kd.F k32 W ok A1 x.f1.f0.length x.f1.f0) {A2 : Option Addr} {c2 : Nat} (l2 : x.f1.f1.length ≤ c2) (g2 : Kd.F k27 W ok A2 x.f1.f1.length x.f1.f1) : Kd.FK k87 W ok x [.int .i64 x.f0, .slice A1 x.f1.f0.length c1, .slice A2 x.f1.f1.length c2, .int .i64 x.f1.f2, .int .u64 x.f1.f3.f0, .int .i64 x.f1.f3.f1] := fun W2 hW => k87_mk W2 x l1 (g1 W2 hW) l2 (g2 W2 hW)
def rd_T87 (xs : List S87) (i : Int) : S87 := xs.getD i.toNat z87
theorem at_T87 {w : World} {A : Option Addr} {n : Nat} {xs : List S87} (h : Kd.C k87 w A n xs) (i : Int) (h0 : 0 ≤ i) (h1 : i < n) : ∃ ad A1 c1 A2 c2, A = some ad ∧ w.cell? (ad.add (i.toNat * 6)) = some (.int .i64 (rd_T87 xs i).f0) ∧ w.cell? ⟨(ad.add (i.toNat * 6)).block, (ad.add (i.toNat * 6)).off + 1, none⟩ = some (.slice A1 (rd_T87 xs i).f1.f0.length c1) ∧ w.cell? ⟨(ad.add (i.toNat * 6)).block, (ad.add (i.toNat * 6)).off + 2, none⟩ = some (.slice A2 (rd_T87 xs i).f1.f1.length c2) ∧ w.cell? ⟨(ad.add (i.toNat * 6)).block, (ad.add (i.toNat * 6)).off + 3, none⟩ = some (.int .i64 (rd_T87 xs i).f1.f2) ∧ w.cell? ⟨(ad.add (i.toNat * 6)).block, (ad.add (i.toNat * 6)).off + 4, none⟩ = some (.int .u64 (rd_T87 xs i).f1.f3.f0) ∧ w.cell? ⟨(ad.add (i.toNat * 6)).block, (ad.add (i.toNat * 6)).off + 5, none⟩ = some (.int .i64 (rd_T87 xs i).f1.f3.f1) ∧ (rd_T87 xs i).f1.f0.length ≤ c1 ∧ k32.C w A1 (rd_T87 xs i).f1.f0.length (rd_T87 xs i).f1.f0 ∧ (rd_T87 xs i).f1.f1.length ≤ c2 ∧ k27.C w A2 (rd_T87 xs i).f1.f1.length (rd_T87 xs i).f1.f1 := by
  obtain ⟨ad, c, e, _, hK, hc0⟩ := Kd.C_get h z87 i h0 h1
  have hc : ∀ j u, c[j]? = some u → w.cell? (ad.add (i.toNat * 6 + j)) = some u := hc0
  obtain ⟨A1, c1, A2, c2, rfl, l1, g1, l2, g2⟩ := k87_open hK
  exact ⟨ad, A1, c1, A2, c2, e, hc 0 _ rfl, by rw [← add_field _ _ 1 (by omega)]; exact hc 1 _ rfl, by rw [← add_field _ _ 2 (by omega)]; exact hc 2 _ rfl, by rw [← add_field _ _ 3 (by omega)]; exact hc 3 _ rfl, by rw [← add_field _ _ 4 (by omega)]; exact hc 4 _ rfl, by rw [← add_field _ _ 5 (by omega)]; exact hc 5 _ rfl, l1, g1, l2, g2⟩
end Go.Proofs.Ytioooiflpabngaa.PAll
end
section
namespace Go.Proofs.Ytioooiflpabngaa.PAll
open Go.RowKit Go.Proofs.YtioooiflpabngaaW.PrintWords Go.Proofs.YtioooiflpabngaaW.PrintLast Go.Proofs.YtioooiflpabngaaW.PrintMore
abbrev T_ : Bool := true
abbrev F_ : Bool := false
theorem zb_ {p : Prop} (h : p := by repeat (first | (with_reducible first | exact HB.out | apply below_alloc | apply pw_below_drewN | apply below_drew1 | refine below_set ?_ (Aside0.out (by assumption))) | exact HB.out)) : p := h
theorem zk_ {g : Nat} {o : Obj} {w W w1 : World} (a : Aside0 (w.heap[g]? = some o)) (hb : Below W.heap.size W w1) (h : w.heap[g]? = some o → W.heap[g]? = some o := by intro h_; (with_reducible repeat (first | refine blk_drewN ?_ _ | refine blk_drew ?_ | refine blk_alloc ?_ _)); exact h_) : Aside0 (w1.heap[g]? = some o) := ⟨blk_below (h a.out) hb⟩
theorem zr_ {p q : Prop} (a : Aside0 p) (h : p → q := by intro h_; (with_reducible repeat (first | apply Kd.R_alloc | apply Kd.R_drewN | apply Kd.R_drew)); exact h_) : q := h a.out
theorem zn_ {p q : Prop} (a : Aside0 p) (h : p → q := by intro h_; (with_reducible repeat (first | apply Kd.N_alloc | apply Kd.N_drewN | apply Kd.N_drew)); exact h_) : q := h a.out
theorem zv_ {p q : Prop} (a : Aside0 p) (h : p → q := by intro h_; (with_reducible repeat (first | apply Kd.V_alloc | apply Kd.V_drewN | apply Kd.V_drew)); exact h_) : q := h a.out
theorem za_ {p : Prop} (h : p := by (try simp only [List.map_toArray, List.map_cons, List.map_nil]); first | done | rfl | (simp only [List.length_drop, List.length_take]; rfl)) : p := h
theorem zc_ {p q r : Prop} (a : Aside0 p) (b : Aside0 q) (h : p → q → r := by intro a_ b_; repeat (first | exact (Kd.C_below a_ b_) | (with_reducible refine Kd.C_alloc ?_ _) | (with_reducible refine Kd.C_drewN ?_ _) | (with_reducible refine Kd.C_drew ?_))) : r := h a.out b.out
theorem zd_ {p r : Prop} (a : p) (h : p → r := by intro a_; repeat (first | exact a_ | (with_reducible refine Kd.C_alloc ?_ _) | (with_reducible refine Kd.C_drewN ?_ _) | (with_reducible refine Kd.C_drew ?_))) : r := h a
theorem zs_ {p : Prop} (h : p := by first | (with_reducible assumption) | assumption) : p := h
theorem zp_ {p : Prop} (h : p := by simp only [Act.put, List.setIfInBounds_toArray, List.set_cons_zero, List.set_cons_succ, i64_w, i32_w]; rfl) : p := h
end Go.Proofs.Ytioooiflpabngaa.PAll
end
section
namespace Go.Proofs.Ytioooiflpabngaa.PAll
open Go.RowKit Go.Proofs.YtioooiflpabngaaW.PrintWords
instance : Inhabited S25 := ⟨z25⟩
instance : Inhabited S27 := ⟨z27⟩
instance : Inhabited S32 := ⟨z32⟩
instance : Inhabited S53 := ⟨z53⟩
instance : Inhabited S87 := ⟨z87⟩
def cmpI (a b : Int) : Int := if a < b then -1 else if b < a then 1 else 0
def cmpV (a b : S25) : Int := if cmpI a.f0 b.f0 = 0 then cmpI a.f1 b.f1 else cmpI a.f0 b.f0
def cmpL (a b : S27) : Int := if cmpV a.f0 b.f0 = 0 then (if cmpI a.f1 b.f1 = 0 then cmpI a.f2 b.f2 else cmpI a.f1 b.f1) else cmpV a.f0 b.f0
def eqL (a b : S27) : Bool := (a.f0.f0 == b.f0.f0 && (a.f0.f1 == b.f0.f1)) && (a.f1 == b.f1 && (a.f2 == b.f2))
def insL : List S27 → S27 → List S27
  | [], x => [x]
  | a :: l, x => if cmpL a x < 0 then a :: insL l x else if cmpL a x = 0 then a :: l else x :: a :: l
def sortL (l : List S27) : List S27 := l.foldl insL []
def memL (x : S27) (l : List S27) : Bool := l.any fun y => eqL y x
def behindL (order more : List S27) : List S27 := order ++ (sortL more).filter fun x => !memL x order
def risingE : List S32 → Bool
  | [] => true
  | [_] => true
  | a :: b :: l => decide (cmpL a.f0 b.f0 < 0) && risingE (b :: l)
def findE (l : List S32) (at_ : S27) : Option (List Int) := (l.find? fun x => eqL x.f0 at_).map (·.f1)
def putE : List S32 → S32 → List S32
  | [], x => [x]
  | a :: l, x => if cmpL a.f0 x.f0 < 0 then a :: putE l x else if cmpL a.f0 x.f0 = 0 then a :: l else x :: a :: l
def bytes_Clone.f (l0 : List Int) : Option (List Int) := if l0.length < 140737488355328 then some l0 else none
def slices_Clone_Label.f (l0 : List S27) : Option (List S27) := if l0.length < 4398046511104 then some l0 else none
def content_Put.f (l0 : List S32) (a0 a1 a2 a3 : Int) (m : List Int) : Option (List S32) :=
  if risingE l0 = true ∧ l0.length + 1 < 2513169434916 ∧ m.length < 140737488355328 then some (putE l0 ⟨⟨⟨a0, a1⟩, a2, a3⟩, m⟩) else none
def content_Labels.f (l0 : List S32) : Option (List S27) := if l0.length < 4398046511104 then some (l0.map (·.f0)) else none
def label_Sort.f (l0 : List S27) : Option (List S27) := if l0.length < 4398046511104 then some (sortL l0) else none
def label_Behind.f (l0 l1 : List S27) : Option (List S27) := if l0.length + l1.length < 4398046511104 then some (behindL l0 l1) else none
theorem of_if_some {α : Type} {p : Prop} [Decidable p] {x r : α} (h : (if p then some x else none) = some r) : p ∧ x = r := by
  by_cases hp : p
  · rw [if_pos hp] at h; exact ⟨hp, Option.some.inj h⟩
  · rw [if_neg hp] at h; cases h
end Go.Proofs.Ytioooiflpabngaa.PAll
end
section
namespace Go.Proofs.Ytioooiflpabngaa.PAll
open Go.RowKit Go.Proofs.YtioooiflpabngaaW.PrintWords
theorem cmpI_neg (a b : Int) : cmpI a b < 0 ↔ a < b := by unfold cmpI; split <;> (try split) <;> omega
theorem cmpI_zero (a b : Int) : cmpI a b = 0 ↔ a = b := by unfold cmpI; split <;> (try split) <;> omega
theorem cmpI_swap (a b : Int) : cmpI b a = -cmpI a b := by unfold cmpI; split <;> (try split) <;> (try split) <;> (try split) <;> omega
def ltL (a b : S27) : Prop := a.f0.f0 < b.f0.f0 ∨ (a.f0.f0 = b.f0.f0 ∧ (a.f0.f1 < b.f0.f1 ∨ (a.f0.f1 = b.f0.f1 ∧ (a.f1 < b.f1 ∨ (a.f1 = b.f1 ∧ a.f2 < b.f2)))))
theorem cmpL_neg (a b : S27) : cmpL a b < 0 ↔ ltL a b := by
  have h1 := cmpI_neg a.f0.f0 b.f0.f0
  have h2 := cmpI_neg a.f0.f1 b.f0.f1
  have h3 := cmpI_neg a.f1 b.f1
  have h4 := cmpI_neg a.f2 b.f2
  have e1 := cmpI_zero a.f0.f0 b.f0.f0
  have e2 := cmpI_zero a.f0.f1 b.f0.f1
  have e3 := cmpI_zero a.f1 b.f1
  have e4 := cmpI_zero a.f2 b.f2
  unfold cmpL cmpV ltL
  by_cases c1 : cmpI a.f0.f0 b.f0.f0 = 0 <;> by_cases c2 : cmpI a.f0.f1 b.f0.f1 = 0 <;> by_cases c3 : cmpI a.f1 b.f1 = 0 <;> simp only [c1, c2, c3, if_true, if_false] <;> omega
theorem cmpL_zero (a b : S27) : cmpL a b = 0 ↔ (a.f0.f0 = b.f0.f0 ∧ a.f0.f1 = b.f0.f1 ∧ a.f1 = b.f1 ∧ a.f2 = b.f2) := by
  have e1 := cmpI_zero a.f0.f0 b.f0.f0
  have e2 := cmpI_zero a.f0.f1 b.f0.f1
  have e3 := cmpI_zero a.f1 b.f1
  have e4 := cmpI_zero a.f2 b.f2
  unfold cmpL cmpV
  by_cases c1 : cmpI a.f0.f0 b.f0.f0 = 0 <;> by_cases c2 : cmpI a.f0.f1 b.f0.f1 = 0 <;> by_cases c3 : cmpI a.f1 b.f1 = 0 <;> simp only [c1, c2, c3, if_true, if_false, false_iff, true_iff] <;> omega
theorem extL {a b : S27} (h : a.f0.f0 = b.f0.f0 ∧ a.f0.f1 = b.f0.f1 ∧ a.f1 = b.f1 ∧ a.f2 = b.f2) : a = b := by
  obtain ⟨⟨a0, a1⟩, a2, a3⟩ := a
  obtain ⟨⟨b0, b1⟩, b2, b3⟩ := b
  obtain ⟨h0, h1, h2, h3⟩ := h
  simp only at h0 h1 h2 h3
  subst h0 h1 h2 h3
  rfl
theorem cmpL_eq {a b : S27} : cmpL a b = 0 ↔ a = b := ⟨fun h => extL ((cmpL_zero a b).1 h), fun h => by subst h; exact (cmpL_zero _ _).2 ⟨rfl, rfl, rfl, rfl⟩⟩
theorem cmpL_swap (a b : S27) : cmpL b a = -cmpL a b := by
  have h1 := cmpI_swap a.f0.f0 b.f0.f0
  have h2 := cmpI_swap a.f0.f1 b.f0.f1
  have h3 := cmpI_swap a.f1 b.f1
  have h4 := cmpI_swap a.f2 b.f2
  unfold cmpL cmpV
  rw [h1, h2, h3, h4]
  by_cases c1 : cmpI a.f0.f0 b.f0.f0 = 0 <;> by_cases c2 : cmpI a.f0.f1 b.f0.f1 = 0 <;> by_cases c3 : cmpI a.f1 b.f1 = 0 <;> simp only [c1, c2, c3, if_true, if_false, Int.neg_eq_zero, Int.neg_zero]
theorem eqL_iff {a b : S27} : eqL a b = true ↔ a = b := by
  constructor
  · intro h
    simp only [eqL, Bool.and_eq_true, beq_iff_eq] at h
    exact extL ⟨h.1.1, h.1.2, h.2.1, h.2.2⟩
  · rintro rfl
    simp [eqL]
theorem ltL_trans {a b c : S27} (h : ltL a b) (k : ltL b c) : ltL a c := by unfold ltL at *; omega
theorem ltL_irrefl (a : S27) : ¬ ltL a a := by unfold ltL; omega
theorem cmpL_pos (a b : S27) : 0 < cmpL a b ↔ ltL b a := by
  rw [← cmpL_neg, cmpL_swap a b]
  omega
theorem ltL_total (a b : S27) : ltL a b ∨ a = b ∨ ltL b a := by
  have h1 := cmpL_neg a b
  have h2 := cmpL_pos a b
  have h3 := @cmpL_eq a b
  rcases Int.lt_trichotomy (cmpL a b) 0 with h | h | h
  · exact .inl (h1.1 h)
  · exact .inr (.inl (h3.1 h))
  · exact .inr (.inr (h2.1 h))
end Go.Proofs.Ytioooiflpabngaa.PAll
end
section
namespace Go.Proofs.Ytioooiflpabngaa.PAll
open Go.RowKit Go.Proofs.YtioooiflpabngaaW.PrintWords Go.Proofs.YtioooiflpabngaaW.PrintLast Go.Proofs.YtioooiflpabngaaW.PrintMore
attribute [local go_sem] max2_int min2_int max_two min_two max_three min_three max_four min_four   -- for this text's walks alone
set_option linter.unusedVariables false
set_option linter.unusedSimpArgs false
theorem eqA25 (d : Nat) (w : World) (x0 y0 : Int) (x1 y1 : Int) :
  (Op.equalIn (d + 2) 25 (.agg #[.int .u64 x0, .int .i64 x1]) (.agg #[.int .u64 y0, .int .i64 y1])).run Try.prog w = .ok (x0 == y0 && (x1 == y1)) w := by
 refine eqA_of Try.underlying25 (by kernel_rfl) ?_
 refine eqf_cons (by rfl) (by go_simp; rfl) (by go_simp; rfl) (by go_simp) ?_
 exact eqf_last (by rfl) (by go_simp; rfl) (by go_simp; rfl) (by go_simp)
end Go.Proofs.Ytioooiflpabngaa.PAll
end
section
namespace Go.Proofs.Ytioooiflpabngaa.PAll
open Go.RowKit Go.Proofs.YtioooiflpabngaaW.PrintWords Go.Proofs.YtioooiflpabngaaW.PrintLast Go.Proofs.YtioooiflpabngaaW.PrintMore
attribute [local go_sem] max2_int min2_int max_two min_two max_three min_three max_four min_four   -- for this text's walks alone
set_option linter.unusedVariables false
set_option linter.unusedSimpArgs false
attribute [local go_sem high] eqA25
def folkmootref04_Compare.j0 : Nat → Bool → Int → Int → Int → Int → Option (Int)
 | 0, _, _, _, _, _ => none
 | k + 1, x5, x160000, x160001, x161000, x161001 => if x5 = true then (some (-1)) else (if (x160000 == x161000 && (x160001 == x161001)) = true then (some 0) else (some 1))
def folkmootref04_Compare.f (k : Nat) (a0_0 : Int) (a0_1 : Int) (a1_0 : Int) (a1_1 : Int) : Option (Int) := if a0_0 < a1_0 then (folkmootref04_Compare.j0 k true a0_0 a0_1 a1_0 a1_1) else (if a0_0 = a1_0 then (folkmootref04_Compare.j0 k (decide (a0_1 < a1_1)) a0_0 a0_1 a1_0 a1_1) else (folkmootref04_Compare.j0 k false a0_0 a0_1 a1_0 a1_1))
set_option maxHeartbeats 8000000 in
set_option maxRecDepth 100000 in
theorem folkmootref04_Compare.calls (k : Nat) (a0_0 : Int) (a0_1 : Int) (a1_0 : Int) (a1_1 : Int) (r : Int) (w : World) (h : folkmootref04_Compare.f k a0_0 a0_1 a1_0 a1_1 = some r) :
  Calls Try.prog 89 #[.agg #[.int .u64 a0_0, .int .i64 a0_1], .agg #[.int .u64 a1_0, .int .i64 a1_1]] w fun e w' => e = .returned (.int .i64 r) ∧ Below w.heap.size w w' := by
 have hu25 := Try.underlying25
 have HB := Aside0.mk (Below.refl w.heap.size w)
 have H : (if a0_0 < a1_0 then (folkmootref04_Compare.j0 k true a0_0 a0_1 a1_0 a1_1) else (if a0_0 = a1_0 then (folkmootref04_Compare.j0 k (decide (a0_1 < a1_1)) a0_0 a0_1 a1_0 a1_1) else (folkmootref04_Compare.j0 k false a0_0 a0_1 a1_0 a1_1))) = some r := h
 clear h
 have HC3 := Aside0.mk H
 clear H
 go_enter Try.func89, Try.ntmps89
 go_upto_region 1 with (first | ((with_reducible refine gate_dst (N := 2) rfl ?_); refine box_event ?hg (N := 2) ?hd (cs := #[.int .u64 a0_0, .int .i64 a0_1]) (t := 25) ?hr ?_; (case hd => rfl); (case hg => rfl); (case hr => first | (go_simp; done) | (go_simp; rfl)); intro gb159 hg w4 hbox hb; have n0_ := Aside0.mk (below_step zb_ hb); have n1_ := Aside0.mk (hbox); have n2_ := Aside0.mk ((by rw [hg]; exact (below_size zb_) : w.heap.size ≤ gb159)); have n3_ := Aside0.mk ((by rw [hg]; exact (below_size zb_) : w.heap.size ≤ gb159)); clear HB; have HB := n0_; have BK159 := n1_; have GW159 := n2_; have GE159 := n3_; clear n0_ n1_ n2_ n3_; clear hb hbox hg) | ((with_reducible refine gate_dst (N := 3) rfl ?_); refine box_event ?hg (N := 3) ?hd (cs := #[.int .u64 a1_0, .int .i64 a1_1]) (t := 25) ?hr ?_; (case hd => rfl); (case hg => rfl); (case hr => first | (go_simp; done) | (go_simp; rfl)); intro gb160 hg w5 hbox hb; have n0_ := zk_ BK159 hb; have n1_ := Aside0.mk (below_step zb_ hb); have n2_ := Aside0.mk (hbox); have n3_ := Aside0.mk ((by rw [hg]; exact (below_size zb_) : w.heap.size ≤ gb160)); have n4_ := Aside0.mk ((by rw [hg]; exact (below_size zb_) : w.heap.size ≤ gb160)); have n5_ := Aside0.mk ((by rw [hg]; exact Nat.ne_of_lt (blk_lt (g := gb159) (o := .cells #[.int .u64 a0_0, .int .i64 a0_1] 25 (0, 0)) (by (with_reducible repeat (first | refine blk_drewN ?_ _ | refine blk_drew ?_ | refine blk_alloc ?_ _)); exact BK159.out)) : gb159 ≠ gb160)); have n6_ := Aside0.mk ((by rw [hg]; exact Nat.ne_of_gt (blk_lt (g := gb159) (o := .cells #[.int .u64 a0_0, .int .i64 a0_1] 25 (0, 0)) (by (with_reducible repeat (first | refine blk_drewN ?_ _ | refine blk_drew ?_ | refine blk_alloc ?_ _)); exact BK159.out)) : gb160 ≠ gb159)); clear BK159; clear HB; have BK159 := n0_; have HB := n1_; have BK160 := n2_; have GW160 := n3_; have GE160 := n4_; have NB159_160 := n5_; have NB160_159 := n6_; clear n0_ n1_ n2_ n3_ n4_ n5_ n6_; clear hb hbox hg))
 (try simp only [Act.put, List.setIfInBounds_toArray, List.set_cons_zero, List.set_cons_succ])
 go_cut [5] (fun v5 wc => ∃ (kq : Nat) (x5_2 : Bool), v5 = .bool x5_2 ∧ Aside0 (folkmootref04_Compare.j0 kq x5_2 a0_0 a0_1 a1_0 a1_1 = some r) ∧ Aside0 (kq ≤ k) ∧ Aside0 (wc.heap[gb159]? = some (.cells #[.int .u64 a0_0, .int .i64 a0_1] 25 (0, 0))) ∧ Aside0 (wc.heap[gb160]? = some (.cells #[.int .u64 a1_0, .int .i64 a1_1] 25 (0, 0))) ∧ Aside0 (Below w.heap.size w wc))
 case first =>
  have H := HC3.out
  clear HC3
  by_cases c6 : a0_0 < a1_0
  ·
   rw [if_pos c6] at H
   have c6b0 : decide (a0_0 < a1_0) = true := decide_eq_true c6
   clear c6
   (first | rw [c6b0] | (simp only [i64_w, i32_w]; rw [c6b0]) | skip)
   have H' := Aside0.mk H
   clear H
   have hnb7 := NB159_160.out
   have hnc7 := NB160_159.out
   have hcz8_0 : w5.cell? ⟨gb159, 0, none⟩ = some (.int .u64 a0_0) := (blk_cell BK159.out 0).trans rfl
   have hcz8_1 : w5.cell? ⟨gb159, 1, none⟩ = some (.int .i64 a0_1) := (blk_cell BK159.out 1).trans rfl
   have hfz8_0 := blk_frozen BK159.out 0
   have hfz8_1 := blk_frozen BK159.out 1
   have hcz9_0 : w5.cell? ⟨gb160, 0, none⟩ = some (.int .u64 a1_0) := (blk_cell BK160.out 0).trans rfl
   have hcz9_1 : w5.cell? ⟨gb160, 1, none⟩ = some (.int .i64 a1_1) := (blk_cell BK160.out 1).trans rfl
   have hfz9_0 := blk_frozen BK160.out 0
   have hfz9_1 := blk_frozen BK160.out 1
   go_wp2
   go_meet
   case rel => exact ⟨_, (true), (by first | rfl | (simp; done) | (simp [*]; done)), H', ⟨by first | omega | exact Nat.le_refl _⟩, ⟨by (with_reducible repeat (first | refine blk_drewN ?_ _ | refine blk_drew ?_ | refine blk_alloc ?_ _)); exact BK159.out⟩, ⟨by (with_reducible repeat (first | refine blk_drewN ?_ _ | refine blk_drew ?_ | refine blk_alloc ?_ _)); exact BK160.out⟩, ⟨by repeat (first | (with_reducible first | exact HB.out | apply below_alloc | apply pw_below_drewN | apply below_drew1 | refine below_set ?_ GE159.out | refine below_set ?_ GE160.out) | exact HB.out)⟩⟩
  ·
   rw [if_neg c6] at H
   have c6b0 : decide (a0_0 < a1_0) = false := decide_eq_false c6
   clear c6
   (first | rw [c6b0] | (simp only [i64_w, i32_w]; rw [c6b0]) | skip)
   by_cases c10 : a0_0 = a1_0
   ·
    rw [if_pos c10] at H
    have c10b0 : (a0_0 == a1_0) = true := beq_iff_eq.mpr c10
    have c10b1 : (a0_0 != a1_0) = false := bne_eq_false_iff_eq.mpr c10
    clear c10
    have H' := Aside0.mk H
    clear H
    have hnb11 := NB159_160.out
    have hnc11 := NB160_159.out
    have hcz12_0 : w5.cell? ⟨gb159, 0, none⟩ = some (.int .u64 a0_0) := (blk_cell BK159.out 0).trans rfl
    have hcz12_1 : w5.cell? ⟨gb159, 1, none⟩ = some (.int .i64 a0_1) := (blk_cell BK159.out 1).trans rfl
    have hfz12_0 := blk_frozen BK159.out 0
    have hfz12_1 := blk_frozen BK159.out 1
    have hcz13_0 : w5.cell? ⟨gb160, 0, none⟩ = some (.int .u64 a1_0) := (blk_cell BK160.out 0).trans rfl
    have hcz13_1 : w5.cell? ⟨gb160, 1, none⟩ = some (.int .i64 a1_1) := (blk_cell BK160.out 1).trans rfl
    have hfz13_0 := blk_frozen BK160.out 0
    have hfz13_1 := blk_frozen BK160.out 1
    go_wp2
    go_meet
    case rel => exact ⟨_, (decide (a0_1 < a1_1)), (by first | rfl | (simp; done) | (simp [*]; done)), H', ⟨by first | omega | exact Nat.le_refl _⟩, ⟨by (with_reducible repeat (first | refine blk_drewN ?_ _ | refine blk_drew ?_ | refine blk_alloc ?_ _)); exact BK159.out⟩, ⟨by (with_reducible repeat (first | refine blk_drewN ?_ _ | refine blk_drew ?_ | refine blk_alloc ?_ _)); exact BK160.out⟩, ⟨by repeat (first | (with_reducible first | exact HB.out | apply below_alloc | apply pw_below_drewN | apply below_drew1 | refine below_set ?_ GE159.out | refine below_set ?_ GE160.out) | exact HB.out)⟩⟩
   ·
    rw [if_neg c10] at H
    have c10b0 : (a0_0 == a1_0) = false := beq_eq_false_iff_ne.mpr c10
    have c10b1 : (a0_0 != a1_0) = true := bne_iff_ne.mpr c10
    have H' := Aside0.mk H
    clear H
    have hnb14 := NB159_160.out
    have hnc14 := NB160_159.out
    have hcz15_0 : w5.cell? ⟨gb159, 0, none⟩ = some (.int .u64 a0_0) := (blk_cell BK159.out 0).trans rfl
    have hcz15_1 : w5.cell? ⟨gb159, 1, none⟩ = some (.int .i64 a0_1) := (blk_cell BK159.out 1).trans rfl
    have hfz15_0 := blk_frozen BK159.out 0
    have hfz15_1 := blk_frozen BK159.out 1
    have hcz16_0 : w5.cell? ⟨gb160, 0, none⟩ = some (.int .u64 a1_0) := (blk_cell BK160.out 0).trans rfl
    have hcz16_1 : w5.cell? ⟨gb160, 1, none⟩ = some (.int .i64 a1_1) := (blk_cell BK160.out 1).trans rfl
    have hfz16_0 := blk_frozen BK160.out 0
    have hfz16_1 := blk_frozen BK160.out 1
    go_wp2
    go_meet
    case rel => exact ⟨_, (false), (by first | rfl | (simp; done) | (simp [*]; done)), H', ⟨by first | omega | exact Nat.le_refl _⟩, ⟨by (with_reducible repeat (first | refine blk_drewN ?_ _ | refine blk_drew ?_ | refine blk_alloc ?_ _)); exact BK159.out⟩, ⟨by (with_reducible repeat (first | refine blk_drewN ?_ _ | refine blk_drew ?_ | refine blk_alloc ?_ _)); exact BK160.out⟩, ⟨by repeat (first | (with_reducible first | exact HB.out | apply below_alloc | apply pw_below_drewN | apply below_drew1 | refine below_set ?_ GE159.out | refine below_set ?_ GE160.out) | exact HB.out)⟩⟩
 case rest =>
  clear HC3
  try clear c1
  try clear p2
  try clear c6
  try clear c6b0
  try clear c7
  try clear c8
  try clear c10
  try clear c10b0
  try clear c10b1
  try clear c11
  try clear c14
  try clear hcz12_0
  try clear hcz12_1
  try clear hcz13_0
  try clear hcz13_1
  try clear hcz15_0
  try clear hcz15_1
  try clear hcz16_0
  try clear hcz16_1
  try clear hcz8_0
  try clear hcz8_1
  try clear hcz9_0
  try clear hcz9_1
  try clear hfz12_0
  try clear hfz12_1
  try clear hfz13_0
  try clear hfz13_1
  try clear hfz15_0
  try clear hfz15_1
  try clear hfz16_0
  try clear hfz16_1
  try clear hfz8_0
  try clear hfz8_1
  try clear hfz9_0
  try clear hfz9_1
  obtain ⟨kq, x5_2, rfl, HA, HJ2, BK159, BK160, HB⟩ := hcut
  cases kq with
  | zero => exact absurd HA.out (by simp [folkmootref04_Compare.j0])
  | succ kj2 =>
   have H := HA.out
   clear HA
   simp only [folkmootref04_Compare.j0] at H
   by_cases c17 : x5_2 = true
   ·
    subst c17
    have H1 : (some (-1)) = some r := by rw [if_pos rfl] at H; exact H
    clear H
    have H := H1
    clear H1
    obtain rfl := Option.some.inj H
    go_wp2
    go_ret
    exact ⟨by first | rfl | (simp [errW_none, errW_some] <;> rfl) | (simp [*, errW_none, errW_some] <;> rfl), by repeat (first | (with_reducible first | exact HB.out | apply below_alloc | apply pw_below_drewN | apply below_drew1 | refine below_set ?_ GE159.out | refine below_set ?_ GE160.out) | exact HB.out)⟩
   ·
    replace c17 := Bool.eq_false_iff.mpr c17
    subst c17
    have H1 : (if (a0_0 == a1_0 && (a0_1 == a1_1)) = true then (some 0) else (some 1)) = some r := by rw [if_neg (show ¬ (false = true) by decide)] at H; exact H
    clear H
    have H := H1
    clear H1
    by_cases c18 : (a0_0 == a1_0 && (a0_1 == a1_1)) = true
    ·
     rw [if_pos c18] at H
     have c18b0 : (a0_0 == a1_0 && (a0_1 == a1_1)) = true := c18
     (try (have c18b1 : decide (a0_0 = a1_0 && (a0_1 == a1_1)) = true := by simpa using c18))
     (try (have c18b2 : (a0_0 == a1_0 && (a0_1 == a1_1)) = true := by simpa using c18))
     clear c18
     obtain rfl := Option.some.inj H
     have hnb19 := NB159_160.out
     have hnc19 := NB160_159.out
     have hcz20_0 : wc.cell? ⟨gb159, 0, none⟩ = some (.int .u64 a0_0) := (blk_cell BK159.out 0).trans rfl
     have hcz20_1 : wc.cell? ⟨gb159, 1, none⟩ = some (.int .i64 a0_1) := (blk_cell BK159.out 1).trans rfl
     have hfz20_0 := blk_frozen BK159.out 0
     have hfz20_1 := blk_frozen BK159.out 1
     have hcz21_0 : wc.cell? ⟨gb160, 0, none⟩ = some (.int .u64 a1_0) := (blk_cell BK160.out 0).trans rfl
     have hcz21_1 : wc.cell? ⟨gb160, 1, none⟩ = some (.int .i64 a1_1) := (blk_cell BK160.out 1).trans rfl
     have hfz21_0 := blk_frozen BK160.out 0
     have hfz21_1 := blk_frozen BK160.out 1
     go_wp2
     go_ret
     exact ⟨by first | rfl | (simp [errW_none, errW_some] <;> rfl) | (simp [*, errW_none, errW_some] <;> rfl), by repeat (first | (with_reducible first | exact HB.out | apply below_alloc | apply pw_below_drewN | apply below_drew1 | refine below_set ?_ GE159.out | refine below_set ?_ GE160.out) | exact HB.out)⟩
    ·
     rw [if_neg c18] at H
     have c18b0 : (a0_0 == a1_0 && (a0_1 == a1_1)) = false := by simpa using c18
     (try (have c18b1 : decide (a0_0 = a1_0 && (a0_1 == a1_1)) = false := by simpa using c18))
     (try (have c18b2 : (a0_0 == a1_0 && (a0_1 == a1_1)) = false := by simpa using c18))
     (try (have c18b3 : ¬ (a0_0 = a1_0 && (a0_1 == a1_1)) := by simpa using c18))
     clear c18
     obtain rfl := Option.some.inj H
     have hnb22 := NB159_160.out
     have hnc22 := NB160_159.out
     have hcz23_0 : wc.cell? ⟨gb159, 0, none⟩ = some (.int .u64 a0_0) := (blk_cell BK159.out 0).trans rfl
     have hcz23_1 : wc.cell? ⟨gb159, 1, none⟩ = some (.int .i64 a0_1) := (blk_cell BK159.out 1).trans rfl
     have hfz23_0 := blk_frozen BK159.out 0
     have hfz23_1 := blk_frozen BK159.out 1
     have hcz24_0 : wc.cell? ⟨gb160, 0, none⟩ = some (.int .u64 a1_0) := (blk_cell BK160.out 0).trans rfl
     have hcz24_1 : wc.cell? ⟨gb160, 1, none⟩ = some (.int .i64 a1_1) := (blk_cell BK160.out 1).trans rfl
     have hfz24_0 := blk_frozen BK160.out 0
     have hfz24_1 := blk_frozen BK160.out 1
     go_wp2
     go_ret
     exact ⟨by first | rfl | (simp [errW_none, errW_some] <;> rfl) | (simp [*, errW_none, errW_some] <;> rfl), by repeat (first | (with_reducible first | exact HB.out | apply below_alloc | apply pw_below_drewN | apply below_drew1 | refine below_set ?_ GE159.out | refine below_set ?_ GE160.out) | exact HB.out)⟩
end Go.Proofs.Ytioooiflpabngaa.PAll
end
section
namespace Go.Proofs.Ytioooiflpabngaa.PAll
open Go.RowKit Go.Proofs.YtioooiflpabngaaW.PrintWords Go.Proofs.YtioooiflpabngaaW.PrintLast Go.Proofs.YtioooiflpabngaaW.PrintMore
attribute [local go_sem] max2_int min2_int max_two min_two max_three min_three max_four min_four   -- for this text's walks alone
set_option linter.unusedVariables false
set_option linter.unusedSimpArgs false
def folkmootref05_Less.f (k : Nat) (a0_0 : Int) (a0_1 : Int) (a0_2 : Int) (a0_3 : Int) (a1_0 : Int) (a1_1 : Int) (a1_2 : Int) (a1_3 : Int) : Option (Bool) := (folkmootref04_Compare.f k a0_0 a0_1 a1_0 a1_1).bind fun t163 => (if t163 = 0 then (if a0_2 < a1_2 then (some true) else (if a0_2 = a1_2 then (some (decide (a0_3 < a1_3))) else (some false))) else (some (decide (t163 < 0))))
set_option maxHeartbeats 8000000 in
set_option maxRecDepth 100000 in
theorem folkmootref05_Less.calls (k : Nat) (a0_0 : Int) (a0_1 : Int) (a0_2 : Int) (a0_3 : Int) (a1_0 : Int) (a1_1 : Int) (a1_2 : Int) (a1_3 : Int) (r : Bool) (w : World) (h : folkmootref05_Less.f k a0_0 a0_1 a0_2 a0_3 a1_0 a1_1 a1_2 a1_3 = some r) :
  Calls Try.prog 43 #[.agg #[.int .u64 a0_0, .int .i64 a0_1, .int .u64 a0_2, .int .i64 a0_3], .agg #[.int .u64 a1_0, .int .i64 a1_1, .int .u64 a1_2, .int .i64 a1_3]] w fun e w' => e = .returned (.bool r) ∧ Below w.heap.size w w' := by
 have hu27 := Try.underlying27
 have hu25 := Try.underlying25
 have HB := Aside0.mk (Below.refl w.heap.size w)
 have H : ((folkmootref04_Compare.f k a0_0 a0_1 a1_0 a1_1).bind fun t163 => (if t163 = 0 then (if a0_2 < a1_2 then (some true) else (if a0_2 = a1_2 then (some (decide (a0_3 < a1_3))) else (some false))) else (some (decide (t163 < 0))))) = some r := h
 clear h
 replace H := Option.bind_eq_some_iff.mp H
 obtain ⟨t163, A30, H⟩ := H
 replace H : (if t163 = 0 then (if a0_2 < a1_2 then (some true) else (if a0_2 = a1_2 then (some (decide (a0_3 < a1_3))) else (some false))) else (some (decide (t163 < 0)))) = some r := H
 have A3 := Aside0.mk A30
 clear A30
 by_cases c4 : t163 = 0
 ·
  rw [if_pos c4] at H
  have c4b0 : (t163 == 0) = true := beq_iff_eq.mpr c4
  have c4b1 : (t163 != 0) = false := bne_eq_false_iff_eq.mpr c4
  clear c4
  by_cases c5 : a0_2 < a1_2
  ·
   rw [if_pos c5] at H
   have c5b0 : decide (a0_2 < a1_2) = true := decide_eq_true c5
   clear c5
   obtain rfl := Option.some.inj H
   go_enter Try.func43, Try.ntmps43
   go_wp2_with (first | ((with_reducible refine gate_dst (N := 2) rfl ?_); refine box_event ?hg (N := 2) ?hd (cs := #[.int .u64 a0_0, .int .i64 a0_1, .int .u64 a0_2, .int .i64 a0_3]) (t := 27) ?hr ?_; (case hd => rfl); (case hg => rfl); (case hr => first | (go_simp; done) | (go_simp; rfl)); intro gb161 hg w6 hbox hb; have n0_ := Aside0.mk (below_step zb_ hb); have n1_ := Aside0.mk (hbox); have n2_ := Aside0.mk ((by rw [hg]; exact (below_size zb_) : w.heap.size ≤ gb161)); have n3_ := Aside0.mk ((by rw [hg]; exact (below_size zb_) : w.heap.size ≤ gb161)); clear HB; have HB := n0_; have BK161 := n1_; have GW161 := n2_; have GE161 := n3_; clear n0_ n1_ n2_ n3_; clear hb hbox hg) | ((with_reducible refine gate_dst (N := 3) rfl ?_); refine box_event ?hg (N := 3) ?hd (cs := #[.int .u64 a1_0, .int .i64 a1_1, .int .u64 a1_2, .int .i64 a1_3]) (t := 27) ?hr ?_; (case hd => rfl); (case hg => rfl); (case hr => first | (go_simp; done) | (go_simp; rfl)); intro gb162 hg w7 hbox hb; have n0_ := zk_ BK161 hb; have n1_ := Aside0.mk (below_step zb_ hb); have n2_ := Aside0.mk (hbox); have n3_ := Aside0.mk ((by rw [hg]; exact (below_size zb_) : w.heap.size ≤ gb162)); have n4_ := Aside0.mk ((by rw [hg]; exact (below_size zb_) : w.heap.size ≤ gb162)); have n5_ := Aside0.mk ((by rw [hg]; exact Nat.ne_of_lt (blk_lt (g := gb161) (o := .cells #[.int .u64 a0_0, .int .i64 a0_1, .int .u64 a0_2, .int .i64 a0_3] 27 (0, 0)) (by (with_reducible repeat (first | refine blk_drewN ?_ _ | refine blk_drew ?_ | refine blk_alloc ?_ _)); exact BK161.out)) : gb161 ≠ gb162)); have n6_ := Aside0.mk ((by rw [hg]; exact Nat.ne_of_gt (blk_lt (g := gb161) (o := .cells #[.int .u64 a0_0, .int .i64 a0_1, .int .u64 a0_2, .int .i64 a0_3] 27 (0, 0)) (by (with_reducible repeat (first | refine blk_drewN ?_ _ | refine blk_drew ?_ | refine blk_alloc ?_ _)); exact BK161.out)) : gb162 ≠ gb161)); clear BK161; clear HB; have BK161 := n0_; have HB := n1_; have BK162 := n2_; have GW162 := n3_; have GE162 := n4_; have NB161_162 := n5_; have NB162_161 := n6_; clear n0_ n1_ n2_ n3_ n4_ n5_ n6_; clear hb hbox hg; have hnb8 := NB161_162.out; have hnc8 := NB162_161.out; have hcz9_0 : w7.cell? ⟨gb161, 0, none⟩ = some (.int .u64 a0_0) := (blk_cell BK161.out 0).trans rfl; have hcz9_1 : w7.cell? ⟨gb161, 1, none⟩ = some (.int .i64 a0_1) := (blk_cell BK161.out 1).trans rfl; have hcz9_2 : w7.cell? ⟨gb161, 2, none⟩ = some (.int .u64 a0_2) := (blk_cell BK161.out 2).trans rfl; have hcz9_3 : w7.cell? ⟨gb161, 3, none⟩ = some (.int .i64 a0_3) := (blk_cell BK161.out 3).trans rfl; have hfz9_0 := blk_frozen BK161.out 0; have hfz9_1 := blk_frozen BK161.out 1; have hfz9_2 := blk_frozen BK161.out 2; have hfz9_3 := blk_frozen BK161.out 3; have hcz10_0 : w7.cell? ⟨gb162, 0, none⟩ = some (.int .u64 a1_0) := (blk_cell BK162.out 0).trans rfl; have hcz10_1 : w7.cell? ⟨gb162, 1, none⟩ = some (.int .i64 a1_1) := (blk_cell BK162.out 1).trans rfl; have hcz10_2 : w7.cell? ⟨gb162, 2, none⟩ = some (.int .u64 a1_2) := (blk_cell BK162.out 2).trans rfl; have hcz10_3 : w7.cell? ⟨gb162, 3, none⟩ = some (.int .i64 a1_3) := (blk_cell BK162.out 3).trans rfl; have hfz10_0 := blk_frozen BK162.out 0; have hfz10_1 := blk_frozen BK162.out 1; have hfz10_2 := blk_frozen BK162.out 2; have hfz10_3 := blk_frozen BK162.out 3) | ((with_reducible refine gate_callee (f := 89) rfl ?_); refine goesL_ (some 10) rfl rfl Try.func89 (by kernel_rfl) rfl #[.agg #[.int .u64 a0_0, .int .i64 a0_1], .agg #[.int .u64 a1_0, .int .i64 a1_1]] rfl za_ ?_; (with_reducible refine (folkmootref04_Compare.calls k a0_0 a0_1 a1_0 a1_1 t163 _ A3.out).mono ?_); rintro e w11 ⟨rfl, hb⟩; refine ⟨_, rfl, ?_⟩; have n0_ := zk_ BK161 hb; have n1_ := zk_ BK162 hb; have n2_ := Aside0.mk (below_step zb_ hb); clear BK161; clear BK162; clear HB; have BK161 := n0_; have BK162 := n1_; have HB := n2_; clear n0_ n1_ n2_; (try clear hb); (try clear hb2); (try clear hk); (try clear hi); have hcz12_0 : w11.cell? ⟨gb161, 0, none⟩ = some (.int .u64 a0_0) := (blk_cell BK161.out 0).trans rfl; have hcz12_1 : w11.cell? ⟨gb161, 1, none⟩ = some (.int .i64 a0_1) := (blk_cell BK161.out 1).trans rfl; have hcz12_2 : w11.cell? ⟨gb161, 2, none⟩ = some (.int .u64 a0_2) := (blk_cell BK161.out 2).trans rfl; have hcz12_3 : w11.cell? ⟨gb161, 3, none⟩ = some (.int .i64 a0_3) := (blk_cell BK161.out 3).trans rfl; have hfz12_0 := blk_frozen BK161.out 0; have hfz12_1 := blk_frozen BK161.out 1; have hfz12_2 := blk_frozen BK161.out 2; have hfz12_3 := blk_frozen BK161.out 3; have hcz13_0 : w11.cell? ⟨gb162, 0, none⟩ = some (.int .u64 a1_0) := (blk_cell BK162.out 0).trans rfl; have hcz13_1 : w11.cell? ⟨gb162, 1, none⟩ = some (.int .i64 a1_1) := (blk_cell BK162.out 1).trans rfl; have hcz13_2 : w11.cell? ⟨gb162, 2, none⟩ = some (.int .u64 a1_2) := (blk_cell BK162.out 2).trans rfl; have hcz13_3 : w11.cell? ⟨gb162, 3, none⟩ = some (.int .i64 a1_3) := (blk_cell BK162.out 3).trans rfl; have hfz13_0 := blk_frozen BK162.out 0; have hfz13_1 := blk_frozen BK162.out 1; have hfz13_2 := blk_frozen BK162.out 2; have hfz13_3 := blk_frozen BK162.out 3))
   go_ret
   exact ⟨by first | rfl | (simp [errW_none, errW_some] <;> rfl) | (simp [*, errW_none, errW_some] <;> rfl), by repeat (first | (with_reducible first | exact HB.out | apply below_alloc | apply pw_below_drewN | apply below_drew1 | refine below_set ?_ GE161.out | refine below_set ?_ GE162.out) | exact HB.out)⟩
  ·
   rw [if_neg c5] at H
   have c5b0 : decide (a0_2 < a1_2) = false := decide_eq_false c5
   clear c5
   by_cases c14 : a0_2 = a1_2
   ·
    rw [if_pos c14] at H
    have c14b0 : (a0_2 == a1_2) = true := beq_iff_eq.mpr c14
    have c14b1 : (a0_2 != a1_2) = false := bne_eq_false_iff_eq.mpr c14
    clear c14
    obtain rfl := Option.some.inj H
    go_enter Try.func43, Try.ntmps43
    go_wp2_with (first | ((with_reducible refine gate_dst (N := 2) rfl ?_); refine box_event ?hg (N := 2) ?hd (cs := #[.int .u64 a0_0, .int .i64 a0_1, .int .u64 a0_2, .int .i64 a0_3]) (t := 27) ?hr ?_; (case hd => rfl); (case hg => rfl); (case hr => first | (go_simp; done) | (go_simp; rfl)); intro gb161 hg w15 hbox hb; have n0_ := Aside0.mk (below_step zb_ hb); have n1_ := Aside0.mk (hbox); have n2_ := Aside0.mk ((by rw [hg]; exact (below_size zb_) : w.heap.size ≤ gb161)); have n3_ := Aside0.mk ((by rw [hg]; exact (below_size zb_) : w.heap.size ≤ gb161)); clear HB; have HB := n0_; have BK161 := n1_; have GW161 := n2_; have GE161 := n3_; clear n0_ n1_ n2_ n3_; clear hb hbox hg) | ((with_reducible refine gate_dst (N := 3) rfl ?_); refine box_event ?hg (N := 3) ?hd (cs := #[.int .u64 a1_0, .int .i64 a1_1, .int .u64 a1_2, .int .i64 a1_3]) (t := 27) ?hr ?_; (case hd => rfl); (case hg => rfl); (case hr => first | (go_simp; done) | (go_simp; rfl)); intro gb162 hg w16 hbox hb; have n0_ := zk_ BK161 hb; have n1_ := Aside0.mk (below_step zb_ hb); have n2_ := Aside0.mk (hbox); have n3_ := Aside0.mk ((by rw [hg]; exact (below_size zb_) : w.heap.size ≤ gb162)); have n4_ := Aside0.mk ((by rw [hg]; exact (below_size zb_) : w.heap.size ≤ gb162)); have n5_ := Aside0.mk ((by rw [hg]; exact Nat.ne_of_lt (blk_lt (g := gb161) (o := .cells #[.int .u64 a0_0, .int .i64 a0_1, .int .u64 a0_2, .int .i64 a0_3] 27 (0, 0)) (by (with_reducible repeat (first | refine blk_drewN ?_ _ | refine blk_drew ?_ | refine blk_alloc ?_ _)); exact BK161.out)) : gb161 ≠ gb162)); have n6_ := Aside0.mk ((by rw [hg]; exact Nat.ne_of_gt (blk_lt (g := gb161) (o := .cells #[.int .u64 a0_0, .int .i64 a0_1, .int .u64 a0_2, .int .i64 a0_3] 27 (0, 0)) (by (with_reducible repeat (first | refine blk_drewN ?_ _ | refine blk_drew ?_ | refine blk_alloc ?_ _)); exact BK161.out)) : gb162 ≠ gb161)); clear BK161; clear HB; have BK161 := n0_; have HB := n1_; have BK162 := n2_; have GW162 := n3_; have GE162 := n4_; have NB161_162 := n5_; have NB162_161 := n6_; clear n0_ n1_ n2_ n3_ n4_ n5_ n6_; clear hb hbox hg; have hnb17 := NB161_162.out; have hnc17 := NB162_161.out; have hcz18_0 : w16.cell? ⟨gb161, 0, none⟩ = some (.int .u64 a0_0) := (blk_cell BK161.out 0).trans rfl; have hcz18_1 : w16.cell? ⟨gb161, 1, none⟩ = some (.int .i64 a0_1) := (blk_cell BK161.out 1).trans rfl; have hcz18_2 : w16.cell? ⟨gb161, 2, none⟩ = some (.int .u64 a0_2) := (blk_cell BK161.out 2).trans rfl; have hcz18_3 : w16.cell? ⟨gb161, 3, none⟩ = some (.int .i64 a0_3) := (blk_cell BK161.out 3).trans rfl; have hfz18_0 := blk_frozen BK161.out 0; have hfz18_1 := blk_frozen BK161.out 1; have hfz18_2 := blk_frozen BK161.out 2; have hfz18_3 := blk_frozen BK161.out 3; have hcz19_0 : w16.cell? ⟨gb162, 0, none⟩ = some (.int .u64 a1_0) := (blk_cell BK162.out 0).trans rfl; have hcz19_1 : w16.cell? ⟨gb162, 1, none⟩ = some (.int .i64 a1_1) := (blk_cell BK162.out 1).trans rfl; have hcz19_2 : w16.cell? ⟨gb162, 2, none⟩ = some (.int .u64 a1_2) := (blk_cell BK162.out 2).trans rfl; have hcz19_3 : w16.cell? ⟨gb162, 3, none⟩ = some (.int .i64 a1_3) := (blk_cell BK162.out 3).trans rfl; have hfz19_0 := blk_frozen BK162.out 0; have hfz19_1 := blk_frozen BK162.out 1; have hfz19_2 := blk_frozen BK162.out 2; have hfz19_3 := blk_frozen BK162.out 3) | ((with_reducible refine gate_callee (f := 89) rfl ?_); refine goesL_ (some 10) rfl rfl Try.func89 (by kernel_rfl) rfl #[.agg #[.int .u64 a0_0, .int .i64 a0_1], .agg #[.int .u64 a1_0, .int .i64 a1_1]] rfl za_ ?_; (with_reducible refine (folkmootref04_Compare.calls k a0_0 a0_1 a1_0 a1_1 t163 _ A3.out).mono ?_); rintro e w20 ⟨rfl, hb⟩; refine ⟨_, rfl, ?_⟩; have n0_ := zk_ BK161 hb; have n1_ := zk_ BK162 hb; have n2_ := Aside0.mk (below_step zb_ hb); clear BK161; clear BK162; clear HB; have BK161 := n0_; have BK162 := n1_; have HB := n2_; clear n0_ n1_ n2_; (try clear hb); (try clear hb2); (try clear hk); (try clear hi); have hcz21_0 : w20.cell? ⟨gb161, 0, none⟩ = some (.int .u64 a0_0) := (blk_cell BK161.out 0).trans rfl; have hcz21_1 : w20.cell? ⟨gb161, 1, none⟩ = some (.int .i64 a0_1) := (blk_cell BK161.out 1).trans rfl; have hcz21_2 : w20.cell? ⟨gb161, 2, none⟩ = some (.int .u64 a0_2) := (blk_cell BK161.out 2).trans rfl; have hcz21_3 : w20.cell? ⟨gb161, 3, none⟩ = some (.int .i64 a0_3) := (blk_cell BK161.out 3).trans rfl; have hfz21_0 := blk_frozen BK161.out 0; have hfz21_1 := blk_frozen BK161.out 1; have hfz21_2 := blk_frozen BK161.out 2; have hfz21_3 := blk_frozen BK161.out 3; have hcz22_0 : w20.cell? ⟨gb162, 0, none⟩ = some (.int .u64 a1_0) := (blk_cell BK162.out 0).trans rfl; have hcz22_1 : w20.cell? ⟨gb162, 1, none⟩ = some (.int .i64 a1_1) := (blk_cell BK162.out 1).trans rfl; have hcz22_2 : w20.cell? ⟨gb162, 2, none⟩ = some (.int .u64 a1_2) := (blk_cell BK162.out 2).trans rfl; have hcz22_3 : w20.cell? ⟨gb162, 3, none⟩ = some (.int .i64 a1_3) := (blk_cell BK162.out 3).trans rfl; have hfz22_0 := blk_frozen BK162.out 0; have hfz22_1 := blk_frozen BK162.out 1; have hfz22_2 := blk_frozen BK162.out 2; have hfz22_3 := blk_frozen BK162.out 3))
    go_ret
    exact ⟨by first | rfl | (simp [errW_none, errW_some] <;> rfl) | (simp [*, errW_none, errW_some] <;> rfl), by repeat (first | (with_reducible first | exact HB.out | apply below_alloc | apply pw_below_drewN | apply below_drew1 | refine below_set ?_ GE161.out | refine below_set ?_ GE162.out) | exact HB.out)⟩
   ·
    rw [if_neg c14] at H
    have c14b0 : (a0_2 == a1_2) = false := beq_eq_false_iff_ne.mpr c14
    have c14b1 : (a0_2 != a1_2) = true := bne_iff_ne.mpr c14
    obtain rfl := Option.some.inj H
    go_enter Try.func43, Try.ntmps43
    go_wp2_with (first | ((with_reducible refine gate_dst (N := 2) rfl ?_); refine box_event ?hg (N := 2) ?hd (cs := #[.int .u64 a0_0, .int .i64 a0_1, .int .u64 a0_2, .int .i64 a0_3]) (t := 27) ?hr ?_; (case hd => rfl); (case hg => rfl); (case hr => first | (go_simp; done) | (go_simp; rfl)); intro gb161 hg w23 hbox hb; have n0_ := Aside0.mk (below_step zb_ hb); have n1_ := Aside0.mk (hbox); have n2_ := Aside0.mk ((by rw [hg]; exact (below_size zb_) : w.heap.size ≤ gb161)); have n3_ := Aside0.mk ((by rw [hg]; exact (below_size zb_) : w.heap.size ≤ gb161)); clear HB; have HB := n0_; have BK161 := n1_; have GW161 := n2_; have GE161 := n3_; clear n0_ n1_ n2_ n3_; clear hb hbox hg) | ((with_reducible refine gate_dst (N := 3) rfl ?_); refine box_event ?hg (N := 3) ?hd (cs := #[.int .u64 a1_0, .int .i64 a1_1, .int .u64 a1_2, .int .i64 a1_3]) (t := 27) ?hr ?_; (case hd => rfl); (case hg => rfl); (case hr => first | (go_simp; done) | (go_simp; rfl)); intro gb162 hg w24 hbox hb; have n0_ := zk_ BK161 hb; have n1_ := Aside0.mk (below_step zb_ hb); have n2_ := Aside0.mk (hbox); have n3_ := Aside0.mk ((by rw [hg]; exact (below_size zb_) : w.heap.size ≤ gb162)); have n4_ := Aside0.mk ((by rw [hg]; exact (below_size zb_) : w.heap.size ≤ gb162)); have n5_ := Aside0.mk ((by rw [hg]; exact Nat.ne_of_lt (blk_lt (g := gb161) (o := .cells #[.int .u64 a0_0, .int .i64 a0_1, .int .u64 a0_2, .int .i64 a0_3] 27 (0, 0)) (by (with_reducible repeat (first | refine blk_drewN ?_ _ | refine blk_drew ?_ | refine blk_alloc ?_ _)); exact BK161.out)) : gb161 ≠ gb162)); have n6_ := Aside0.mk ((by rw [hg]; exact Nat.ne_of_gt (blk_lt (g := gb161) (o := .cells #[.int .u64 a0_0, .int .i64 a0_1, .int .u64 a0_2, .int .i64 a0_3] 27 (0, 0)) (by (with_reducible repeat (first | refine blk_drewN ?_ _ | refine blk_drew ?_ | refine blk_alloc ?_ _)); exact BK161.out)) : gb162 ≠ gb161)); clear BK161; clear HB; have BK161 := n0_; have HB := n1_; have BK162 := n2_; have GW162 := n3_; have GE162 := n4_; have NB161_162 := n5_; have NB162_161 := n6_; clear n0_ n1_ n2_ n3_ n4_ n5_ n6_; clear hb hbox hg; have hnb25 := NB161_162.out; have hnc25 := NB162_161.out; have hcz26_0 : w24.cell? ⟨gb161, 0, none⟩ = some (.int .u64 a0_0) := (blk_cell BK161.out 0).trans rfl; have hcz26_1 : w24.cell? ⟨gb161, 1, none⟩ = some (.int .i64 a0_1) := (blk_cell BK161.out 1).trans rfl; have hcz26_2 : w24.cell? ⟨gb161, 2, none⟩ = some (.int .u64 a0_2) := (blk_cell BK161.out 2).trans rfl; have hcz26_3 : w24.cell? ⟨gb161, 3, none⟩ = some (.int .i64 a0_3) := (blk_cell BK161.out 3).trans rfl; have hfz26_0 := blk_frozen BK161.out 0; have hfz26_1 := blk_frozen BK161.out 1; have hfz26_2 := blk_frozen BK161.out 2; have hfz26_3 := blk_frozen BK161.out 3; have hcz27_0 : w24.cell? ⟨gb162, 0, none⟩ = some (.int .u64 a1_0) := (blk_cell BK162.out 0).trans rfl; have hcz27_1 : w24.cell? ⟨gb162, 1, none⟩ = some (.int .i64 a1_1) := (blk_cell BK162.out 1).trans rfl; have hcz27_2 : w24.cell? ⟨gb162, 2, none⟩ = some (.int .u64 a1_2) := (blk_cell BK162.out 2).trans rfl; have hcz27_3 : w24.cell? ⟨gb162, 3, none⟩ = some (.int .i64 a1_3) := (blk_cell BK162.out 3).trans rfl; have hfz27_0 := blk_frozen BK162.out 0; have hfz27_1 := blk_frozen BK162.out 1; have hfz27_2 := blk_frozen BK162.out 2; have hfz27_3 := blk_frozen BK162.out 3) | ((with_reducible refine gate_callee (f := 89) rfl ?_); refine goesL_ (some 10) rfl rfl Try.func89 (by kernel_rfl) rfl #[.agg #[.int .u64 a0_0, .int .i64 a0_1], .agg #[.int .u64 a1_0, .int .i64 a1_1]] rfl za_ ?_; (with_reducible refine (folkmootref04_Compare.calls k a0_0 a0_1 a1_0 a1_1 t163 _ A3.out).mono ?_); rintro e w28 ⟨rfl, hb⟩; refine ⟨_, rfl, ?_⟩; have n0_ := zk_ BK161 hb; have n1_ := zk_ BK162 hb; have n2_ := Aside0.mk (below_step zb_ hb); clear BK161; clear BK162; clear HB; have BK161 := n0_; have BK162 := n1_; have HB := n2_; clear n0_ n1_ n2_; (try clear hb); (try clear hb2); (try clear hk); (try clear hi); have hcz29_0 : w28.cell? ⟨gb161, 0, none⟩ = some (.int .u64 a0_0) := (blk_cell BK161.out 0).trans rfl; have hcz29_1 : w28.cell? ⟨gb161, 1, none⟩ = some (.int .i64 a0_1) := (blk_cell BK161.out 1).trans rfl; have hcz29_2 : w28.cell? ⟨gb161, 2, none⟩ = some (.int .u64 a0_2) := (blk_cell BK161.out 2).trans rfl; have hcz29_3 : w28.cell? ⟨gb161, 3, none⟩ = some (.int .i64 a0_3) := (blk_cell BK161.out 3).trans rfl; have hfz29_0 := blk_frozen BK161.out 0; have hfz29_1 := blk_frozen BK161.out 1; have hfz29_2 := blk_frozen BK161.out 2; have hfz29_3 := blk_frozen BK161.out 3; have hcz30_0 : w28.cell? ⟨gb162, 0, none⟩ = some (.int .u64 a1_0) := (blk_cell BK162.out 0).trans rfl; have hcz30_1 : w28.cell? ⟨gb162, 1, none⟩ = some (.int .i64 a1_1) := (blk_cell BK162.out 1).trans rfl; have hcz30_2 : w28.cell? ⟨gb162, 2, none⟩ = some (.int .u64 a1_2) := (blk_cell BK162.out 2).trans rfl; have hcz30_3 : w28.cell? ⟨gb162, 3, none⟩ = some (.int .i64 a1_3) := (blk_cell BK162.out 3).trans rfl; have hfz30_0 := blk_frozen BK162.out 0; have hfz30_1 := blk_frozen BK162.out 1; have hfz30_2 := blk_frozen BK162.out 2; have hfz30_3 := blk_frozen BK162.out 3))
    go_ret
    exact ⟨by first | rfl | (simp [errW_none, errW_some] <;> rfl) | (simp [*, errW_none, errW_some] <;> rfl), by repeat (first | (with_reducible first | exact HB.out | apply below_alloc | apply pw_below_drewN | apply below_drew1 | refine below_set ?_ GE161.out | refine below_set ?_ GE162.out) | exact HB.out)⟩
 ·
  rw [if_neg c4] at H
  have c4b0 : (t163 == 0) = false := beq_eq_false_iff_ne.mpr c4
  have c4b1 : (t163 != 0) = true := bne_iff_ne.mpr c4
  obtain rfl := Option.some.inj H
  go_enter Try.func43, Try.ntmps43
  go_wp2_with (first | ((with_reducible refine gate_dst (N := 2) rfl ?_); refine box_event ?hg (N := 2) ?hd (cs := #[.int .u64 a0_0, .int .i64 a0_1, .int .u64 a0_2, .int .i64 a0_3]) (t := 27) ?hr ?_; (case hd => rfl); (case hg => rfl); (case hr => first | (go_simp; done) | (go_simp; rfl)); intro gb161 hg w31 hbox hb; have n0_ := Aside0.mk (below_step zb_ hb); have n1_ := Aside0.mk (hbox); have n2_ := Aside0.mk ((by rw [hg]; exact (below_size zb_) : w.heap.size ≤ gb161)); have n3_ := Aside0.mk ((by rw [hg]; exact (below_size zb_) : w.heap.size ≤ gb161)); clear HB; have HB := n0_; have BK161 := n1_; have GW161 := n2_; have GE161 := n3_; clear n0_ n1_ n2_ n3_; clear hb hbox hg) | ((with_reducible refine gate_dst (N := 3) rfl ?_); refine box_event ?hg (N := 3) ?hd (cs := #[.int .u64 a1_0, .int .i64 a1_1, .int .u64 a1_2, .int .i64 a1_3]) (t := 27) ?hr ?_; (case hd => rfl); (case hg => rfl); (case hr => first | (go_simp; done) | (go_simp; rfl)); intro gb162 hg w32 hbox hb; have n0_ := zk_ BK161 hb; have n1_ := Aside0.mk (below_step zb_ hb); have n2_ := Aside0.mk (hbox); have n3_ := Aside0.mk ((by rw [hg]; exact (below_size zb_) : w.heap.size ≤ gb162)); have n4_ := Aside0.mk ((by rw [hg]; exact (below_size zb_) : w.heap.size ≤ gb162)); have n5_ := Aside0.mk ((by rw [hg]; exact Nat.ne_of_lt (blk_lt (g := gb161) (o := .cells #[.int .u64 a0_0, .int .i64 a0_1, .int .u64 a0_2, .int .i64 a0_3] 27 (0, 0)) (by (with_reducible repeat (first | refine blk_drewN ?_ _ | refine blk_drew ?_ | refine blk_alloc ?_ _)); exact BK161.out)) : gb161 ≠ gb162)); have n6_ := Aside0.mk ((by rw [hg]; exact Nat.ne_of_gt (blk_lt (g := gb161) (o := .cells #[.int .u64 a0_0, .int .i64 a0_1, .int .u64 a0_2, .int .i64 a0_3] 27 (0, 0)) (by (with_reducible repeat (first | refine blk_drewN ?_ _ | refine blk_drew ?_ | refine blk_alloc ?_ _)); exact BK161.out)) : gb162 ≠ gb161)); clear BK161; clear HB; have BK161 := n0_; have HB := n1_; have BK162 := n2_; have GW162 := n3_; have GE162 := n4_; have NB161_162 := n5_; have NB162_161 := n6_; clear n0_ n1_ n2_ n3_ n4_ n5_ n6_; clear hb hbox hg; have hnb33 := NB161_162.out; have hnc33 := NB162_161.out; have hcz34_0 : w32.cell? ⟨gb161, 0, none⟩ = some (.int .u64 a0_0) := (blk_cell BK161.out 0).trans rfl; have hcz34_1 : w32.cell? ⟨gb161, 1, none⟩ = some (.int .i64 a0_1) := (blk_cell BK161.out 1).trans rfl; have hcz34_2 : w32.cell? ⟨gb161, 2, none⟩ = some (.int .u64 a0_2) := (blk_cell BK161.out 2).trans rfl; have hcz34_3 : w32.cell? ⟨gb161, 3, none⟩ = some (.int .i64 a0_3) := (blk_cell BK161.out 3).trans rfl; have hfz34_0 := blk_frozen BK161.out 0; have hfz34_1 := blk_frozen BK161.out 1; have hfz34_2 := blk_frozen BK161.out 2; have hfz34_3 := blk_frozen BK161.out 3; have hcz35_0 : w32.cell? ⟨gb162, 0, none⟩ = some (.int .u64 a1_0) := (blk_cell BK162.out 0).trans rfl; have hcz35_1 : w32.cell? ⟨gb162, 1, none⟩ = some (.int .i64 a1_1) := (blk_cell BK162.out 1).trans rfl; have hcz35_2 : w32.cell? ⟨gb162, 2, none⟩ = some (.int .u64 a1_2) := (blk_cell BK162.out 2).trans rfl; have hcz35_3 : w32.cell? ⟨gb162, 3, none⟩ = some (.int .i64 a1_3) := (blk_cell BK162.out 3).trans rfl; have hfz35_0 := blk_frozen BK162.out 0; have hfz35_1 := blk_frozen BK162.out 1; have hfz35_2 := blk_frozen BK162.out 2; have hfz35_3 := blk_frozen BK162.out 3) | ((with_reducible refine gate_callee (f := 89) rfl ?_); refine goesL_ (some 10) rfl rfl Try.func89 (by kernel_rfl) rfl #[.agg #[.int .u64 a0_0, .int .i64 a0_1], .agg #[.int .u64 a1_0, .int .i64 a1_1]] rfl za_ ?_; (with_reducible refine (folkmootref04_Compare.calls k a0_0 a0_1 a1_0 a1_1 t163 _ A3.out).mono ?_); rintro e w36 ⟨rfl, hb⟩; refine ⟨_, rfl, ?_⟩; have n0_ := zk_ BK161 hb; have n1_ := zk_ BK162 hb; have n2_ := Aside0.mk (below_step zb_ hb); clear BK161; clear BK162; clear HB; have BK161 := n0_; have BK162 := n1_; have HB := n2_; clear n0_ n1_ n2_; (try clear hb); (try clear hb2); (try clear hk); (try clear hi)))
  go_ret
  exact ⟨by first | rfl | (simp [errW_none, errW_some] <;> rfl) | (simp [*, errW_none, errW_some] <;> rfl), by repeat (first | (with_reducible first | exact HB.out | apply below_alloc | apply pw_below_drewN | apply below_drew1 | refine below_set ?_ GE161.out | refine below_set ?_ GE162.out) | exact HB.out)⟩
end Go.Proofs.Ytioooiflpabngaa.PAll
end
section
namespace Go.Proofs.Ytioooiflpabngaa.PAll
open Go.RowKit Go.Proofs.YtioooiflpabngaaW.PrintWords Go.Proofs.YtioooiflpabngaaW.PrintLast Go.Proofs.YtioooiflpabngaaW.PrintMore
attribute [local go_sem] max2_int min2_int max_two min_two max_three min_three max_four min_four   -- for this text's walks alone
set_option linter.unusedVariables false
set_option linter.unusedSimpArgs false
theorem eqA27 (d : Nat) (w : World) (x0 y0 : Int) (x1 y1 : Int) (x2 y2 : Int) (x3 y3 : Int) :
  (Op.equalIn (d + 3) 27 (.agg #[.int .u64 x0, .int .i64 x1, .int .u64 x2, .int .i64 x3]) (.agg #[.int .u64 y0, .int .i64 y1, .int .u64 y2, .int .i64 y3])).run Try.prog w = .ok ((x0 == y0 && (x1 == y1)) && (x2 == y2 && (x3 == y3))) w := by
 refine eqA_of Try.underlying27 (by kernel_rfl) ?_
 refine eqf_cons (by rfl) (by go_simp) (by go_simp) (eqA25 (d + 0) w _ _ _ _) ?_
 refine eqf_cons (by rfl) (by go_simp; rfl) (by go_simp; rfl) (by go_simp) ?_
 exact eqf_last (by rfl) (by go_simp; rfl) (by go_simp; rfl) (by go_simp)
end Go.Proofs.Ytioooiflpabngaa.PAll
end
section
namespace Go.Proofs.Ytioooiflpabngaa.PAll
open Go.RowKit Go.Proofs.YtioooiflpabngaaW.PrintWords Go.Proofs.YtioooiflpabngaaW.PrintLast Go.Proofs.YtioooiflpabngaaW.PrintMore
attribute [local go_sem] max2_int min2_int max_two min_two max_three min_three max_four min_four   -- for this text's walks alone
set_option linter.unusedVariables false
set_option linter.unusedSimpArgs false
attribute [local go_sem high] eqA27
def folkmootref15_Find.l0 : Nat → List (S32) → Int → Int → Int → Int → Int → Option (List Int × Bool)
 | 0, _, _, _, _, _, _ => none
 | k + 1, x0, x6, x157000, x157001, x157002, x157003 => if x6 < (x0.length : Int) then (if 0 ≤ x6 then (if ((((rd_T32 x0 x6).f0.f0.f0) == x157000 && (((rd_T32 x0 x6).f0.f0.f1) == x157001)) && (((rd_T32 x0 x6).f0.f1) == x157002 && (((rd_T32 x0 x6).f0.f2) == x157003))) = true then (some ((rd_T32 x0 x6).f1, true)) else (folkmootref15_Find.l0 k x0 (wrap64 (x6 + 1)) x157000 x157001 x157002 x157003)) else (none)) else (some (([] : List Int), false))
def folkmootref15_Find.f (k : Nat) (l0 : List (S32)) (a1_0 : Int) (a1_1 : Int) (a1_2 : Int) (a1_3 : Int) : Option (List Int × Bool) := folkmootref15_Find.l0 k l0 0 a1_0 a1_1 a1_2 a1_3
set_option maxHeartbeats 8000000 in
set_option maxRecDepth 100000 in
theorem folkmootref15_Find.calls (k : Nat) (P0_ : Nat → Prop) (A0 : Option Addr) (c0 : Nat) (l0 : List (S32)) (a1_0 : Int) (a1_1 : Int) (a1_2 : Int) (a1_3 : Int) (r1 : List Int) (r2 : Bool) (w : World) (hs0 : Kd.V k32 32 w w.heap.size (fun k_ => P0_ k_) (.slice A0 l0.length c0) l0) (h : folkmootref15_Find.f k l0 a1_0 a1_1 a1_2 a1_3 = some (r1, r2)) :
  Calls Try.prog 25 #[.slice A0 l0.length c0, .agg #[.int .u64 a1_0, .int .i64 a1_1, .int .u64 a1_2, .int .i64 a1_3]] w fun e w' => ∃ v0_ : Value, e = .returned (.tuple #[v0_, .bool r2]) ∧ Kd.V (Kd.int .u8) 5 w' w.heap.size (fun k_ => (P0_ k_ ∨ w.heap.size ≤ k_)) v0_ r1 ∧ Below w.heap.size w w' := by
 have hu27 := Try.underlying27
 have HO0 := Aside0.mk (show Kd.V k32 32 w w.heap.size (fun k_ => (P0_ k_ ∨ w.heap.size ≤ k_)) (.slice A0 l0.length c0) l0 from Kd.V_mono hs0 (fun k_ hk => .inl hk))
 have HB := Aside0.mk (Below.refl w.heap.size w)
 have H : (folkmootref15_Find.l0 k l0 0 a1_0 a1_1 a1_2 a1_3) = some (r1, r2) := h
 clear h
 have H' := Aside0.mk H
 clear H
 go_enter Try.func25, Try.ntmps25
 go_wp2_with (first | ((with_reducible refine gate_dst (N := 3) rfl ?_); refine box_event ?hg (N := 3) ?hd (cs := #[.int .u64 a1_0, .int .i64 a1_1, .int .u64 a1_2, .int .i64 a1_3]) (t := 27) ?hr ?_; (case hd => rfl); (case hg => rfl); (case hr => first | (go_simp; done) | (go_simp; rfl)); intro gb156 hg w3 hbox hb; have n0_ := Aside0.mk (Kd.V_below (Kd.V_elderB (zv_ HO0) gb156 (Nat.le_of_eq hg.symm)) hb); have n1_ := Aside0.mk (below_step zb_ hb); have n2_ := Aside0.mk (hbox); have n3_ := Aside0.mk ((by rw [hg]; exact (below_size zb_) : w.heap.size ≤ gb156)); have n4_ := Aside0.mk ((by rw [hg]; exact (below_size zb_) : w.heap.size ≤ gb156)); clear HO0; clear HB; have HO0 := n0_; have HB := n1_; have BK156 := n2_; have GW156 := n3_; have GE156 := n4_; clear n0_ n1_ n2_ n3_ n4_; clear hb hbox hg))
 repeat (go_quiet (first | ((with_reducible refine gate_dst (N := 3) rfl ?_); refine box_event ?hg (N := 3) ?hd (cs := #[.int .u64 a1_0, .int .i64 a1_1, .int .u64 a1_2, .int .i64 a1_3]) (t := 27) ?hr ?_; (case hd => rfl); (case hg => rfl); (case hr => first | (go_simp; done) | (go_simp; rfl)); intro gb156 hg w3 hbox hb; have n0_ := Aside0.mk (Kd.V_below (Kd.V_elderB (zv_ HO0) gb156 (Nat.le_of_eq hg.symm)) hb); have n1_ := Aside0.mk (below_step zb_ hb); have n2_ := Aside0.mk (hbox); have n3_ := Aside0.mk ((by rw [hg]; exact (below_size zb_) : w.heap.size ≤ gb156)); have n4_ := Aside0.mk ((by rw [hg]; exact (below_size zb_) : w.heap.size ≤ gb156)); clear HO0; clear HB; have HO0 := n0_; have HB := n1_; have BK156 := n2_; have GW156 := n3_; have GE156 := n4_; clear n0_ n1_ n2_ n3_ n4_; clear hb hbox hg)); try go_wp2_with (first | ((with_reducible refine gate_dst (N := 3) rfl ?_); refine box_event ?hg (N := 3) ?hd (cs := #[.int .u64 a1_0, .int .i64 a1_1, .int .u64 a1_2, .int .i64 a1_3]) (t := 27) ?hr ?_; (case hd => rfl); (case hg => rfl); (case hr => first | (go_simp; done) | (go_simp; rfl)); intro gb156 hg w3 hbox hb; have n0_ := Aside0.mk (Kd.V_below (Kd.V_elderB (zv_ HO0) gb156 (Nat.le_of_eq hg.symm)) hb); have n1_ := Aside0.mk (below_step zb_ hb); have n2_ := Aside0.mk (hbox); have n3_ := Aside0.mk ((by rw [hg]; exact (below_size zb_) : w.heap.size ≤ gb156)); have n4_ := Aside0.mk ((by rw [hg]; exact (below_size zb_) : w.heap.size ≤ gb156)); clear HO0; clear HB; have HO0 := n0_; have HB := n1_; have BK156 := n2_; have GW156 := n3_; have GE156 := n4_; clear n0_ n1_ n2_ n3_ n4_; clear hb hbox hg)))
 go_loopg [6] k (fun kq v6 w' => ∃ (x6_1 : Int), v6 = .int .i64 x6_1 ∧ Aside0 (folkmootref15_Find.l0 kq l0 x6_1 a1_0 a1_1 a1_2 a1_3 = some (r1, r2)) ∧ Aside0 (kq ≤ k) ∧ Aside0 (Kd.V k32 32 w' w.heap.size (fun k_ => (P0_ k_ ∨ w.heap.size ≤ k_) ∧ k_ ≠ gb156) (.slice A0 l0.length c0) l0) ∧ Aside0 (w'.heap[gb156]? = some (.cells #[.int .u64 a1_0, .int .i64 a1_1, .int .u64 a1_2, .int .i64 a1_3] 27 (0, 0))) ∧ Aside0 (Below w.heap.size w w'))
 case atStart => exact ⟨(0), (by first | rfl | (simp; done) | (simp [*]; done)), H', ⟨Nat.le_refl _⟩, ⟨by (with_reducible repeat (first | apply Kd.V_alloc | apply Kd.V_drewN | apply Kd.V_drew)); exact HO0.out⟩, ⟨by (with_reducible repeat (first | refine blk_drewN ?_ _ | refine blk_drew ?_ | refine blk_alloc ?_ _)); exact BK156.out⟩, ⟨by repeat (first | (with_reducible first | exact HB.out | apply below_alloc | apply pw_below_drewN | apply below_drew1 | refine below_set ?_ GE156.out) | exact HB.out)⟩⟩
 case round =>
  clear H'
  try clear c2
  try clear p2
  obtain ⟨x6_1, rfl, HA, HK1, HO_0, BK156, HB⟩ := hrel
  cases gk with
  | zero => exact absurd HA.out (by simp [folkmootref15_Find.l0])
  | succ k1 =>
   have H := HA.out
   clear HA
   simp only [folkmootref15_Find.l0] at H
   by_cases c4 : x6_1 < (l0.length : Int)
   ·
    rw [if_pos c4] at H
    have c4b0 : decide (x6_1 < (l0.length : Int)) = true := decide_eq_true c4
    clear c4
    by_cases c5 : 0 ≤ x6_1
    ·
     rw [if_pos c5] at H
     have c5b0 : decide (0 ≤ x6_1) = true := decide_eq_true c5
     clear c5
     by_cases c6 : ((((rd_T32 l0 x6_1).f0.f0.f0) == a1_0 && (((rd_T32 l0 x6_1).f0.f0.f1) == a1_1)) && (((rd_T32 l0 x6_1).f0.f1) == a1_2 && (((rd_T32 l0 x6_1).f0.f2) == a1_3))) = true
     ·
      rw [if_pos c6] at H
      have c6b0 : ((((rd_T32 l0 x6_1).f0.f0.f0) == a1_0 && (((rd_T32 l0 x6_1).f0.f0.f1) == a1_1)) && (((rd_T32 l0 x6_1).f0.f1) == a1_2 && (((rd_T32 l0 x6_1).f0.f2) == a1_3))) = true := c6
      clear c6
      simp only [Option.some.injEq, Prod.mk.injEq] at H
      obtain ⟨rfl, rfl⟩ := H
      have p157 : 0 ≤ (x6_1 : Int) := of_decide_eq_true zs_
      have q157 : x6_1 < (l0.length : Int) := of_decide_eq_true zs_
      obtain ⟨ad157, A157_4, c157_4, e157, hx157_0, hx157_1, hx157_2, hx157_3, hx157_4, hl157_4, hi157_4⟩ := at_T32 (Kd.V_reads' HO_0.out).2.2 x6_1 p157 q157
      cases e157
      obtain ⟨ce157, hce157, hMe157, hcc157⟩ := Kd.V_get HO_0.out z32 x6_1 p157 (by first | exact q157 | exact of_decide_eq_true zs_ | (have e_ := (Kd.V_reads' HO_0.out).1; omega))
      obtain ⟨ua157_4, uc157_4, rfl, ul157_4, ge157_4⟩ := k32_openF hMe157
      have hv157_4 := hcc157 4 _ rfl
      rw [add_field _ _ 4 (by omega)] at hv157_4
      replace hv157_4 := Option.some.inj (hv157_4.symm.trans hx157_4)
      injection hv157_4 with hva_ hvn_ hvc_
      rw [hva_] at ge157_4
      rw [hvc_] at ul157_4
      have HL157_4 := Aside0.mk (show Kd.V (Kd.int .u8) 5 _ w.heap.size _ _ ((rd_T32 l0 x6_1).f1) from Kd.V_mk ul157_4 ge157_4)
      clear hva_ hvn_ hvc_ ge157_4 ul157_4
      clear hcc157 hce157
      have HR157_4 := Aside0.mk hi157_4
      have HC157_4 := Aside0.mk hl157_4
      clear hi157_4 hl157_4
      replace p157 := eq_true p157
      replace q157 := eq_true q157
      have hcz7_0 : wr.cell? ⟨gb156, 0, none⟩ = some (.int .u64 a1_0) := (blk_cell BK156.out 0).trans rfl
      have hcz7_1 : wr.cell? ⟨gb156, 1, none⟩ = some (.int .i64 a1_1) := (blk_cell BK156.out 1).trans rfl
      have hcz7_2 : wr.cell? ⟨gb156, 2, none⟩ = some (.int .u64 a1_2) := (blk_cell BK156.out 2).trans rfl
      have hcz7_3 : wr.cell? ⟨gb156, 3, none⟩ = some (.int .i64 a1_3) := (blk_cell BK156.out 3).trans rfl
      have hfz7_0 := blk_frozen BK156.out 0
      have hfz7_1 := blk_frozen BK156.out 1
      have hfz7_2 := blk_frozen BK156.out 2
      have hfz7_3 := blk_frozen BK156.out 3
      have p158 : 0 ≤ (x6_1 : Int) := of_decide_eq_true zs_
      have q158 : x6_1 < (l0.length : Int) := of_decide_eq_true zs_
      obtain ⟨ad158, A158_4, c158_4, e158, hx158_0, hx158_1, hx158_2, hx158_3, hx158_4, hl158_4, hi158_4⟩ := at_T32 (Kd.V_reads' HO_0.out).2.2 x6_1 p158 q158
      obtain rfl : ad157 = ad158 := (by injection e158)
      obtain ⟨ce158, hce158, hMe158, hcc158⟩ := Kd.V_get HO_0.out z32 x6_1 p158 (by first | exact q158 | exact of_decide_eq_true zs_ | (have e_ := (Kd.V_reads' HO_0.out).1; omega))
      obtain ⟨ua158_4, uc158_4, rfl, ul158_4, ge158_4⟩ := k32_openF hMe158
      have hv158_4 := hcc158 4 _ rfl
      rw [add_field _ _ 4 (by omega)] at hv158_4
      replace hv158_4 := Option.some.inj (hv158_4.symm.trans hx158_4)
      injection hv158_4 with hva_ hvn_ hvc_
      rw [hva_] at ge158_4
      rw [hvc_] at ul158_4
      have HL158_4 := Aside0.mk (show Kd.V (Kd.int .u8) 5 _ w.heap.size _ _ ((rd_T32 l0 x6_1).f1) from Kd.V_mk ul158_4 ge158_4)
      clear hva_ hvn_ hvc_ ge158_4 ul158_4
      clear hcc158 hce158
      have HR158_4 := Aside0.mk hi158_4
      have HC158_4 := Aside0.mk hl158_4
      clear hi158_4 hl158_4
      replace p158 := eq_true p158
      replace q158 := eq_true q158
      have ea_ := Option.some.inj (hx157_4.symm.trans hx158_4)
      injection ea_ with ea_ en_ ec_
      subst ea_
      subst ec_
      clear en_
      go_wp2
      repeat (go_quiet (fail); try go_wp2)
      go_ret2
      exact ⟨_, by first | rfl | (simp [errW_none, errW_some] <;> rfl) | (simp [*, errW_none, errW_some] <;> rfl), by (with_reducible repeat (first | apply Kd.V_alloc | apply Kd.V_drewN | apply Kd.V_drew)); exact Kd.V_mono HL158_4.out (fun _ hk => hk.1), by repeat (first | (with_reducible first | exact HB.out | apply below_alloc | apply pw_below_drewN | apply below_drew1 | refine below_set ?_ GE156.out) | exact HB.out)⟩
     ·
      rw [if_neg c6] at H
      have c6b0 : ((((rd_T32 l0 x6_1).f0.f0.f0) == a1_0 && (((rd_T32 l0 x6_1).f0.f0.f1) == a1_1)) && (((rd_T32 l0 x6_1).f0.f1) == a1_2 && (((rd_T32 l0 x6_1).f0.f2) == a1_3))) = false := by simpa using c6
      clear c6
      have H' := Aside0.mk H
      clear H
      have p157 : 0 ≤ (x6_1 : Int) := of_decide_eq_true zs_
      have q157 : x6_1 < (l0.length : Int) := of_decide_eq_true zs_
      obtain ⟨ad157, A157_4, c157_4, e157, hx157_0, hx157_1, hx157_2, hx157_3, hx157_4, hl157_4, hi157_4⟩ := at_T32 (Kd.V_reads' HO_0.out).2.2 x6_1 p157 q157
      cases e157
      obtain ⟨ce157, hce157, hMe157, hcc157⟩ := Kd.V_get HO_0.out z32 x6_1 p157 (by first | exact q157 | exact of_decide_eq_true zs_ | (have e_ := (Kd.V_reads' HO_0.out).1; omega))
      obtain ⟨ua157_4, uc157_4, rfl, ul157_4, ge157_4⟩ := k32_openF hMe157
      have hv157_4 := hcc157 4 _ rfl
      rw [add_field _ _ 4 (by omega)] at hv157_4
      replace hv157_4 := Option.some.inj (hv157_4.symm.trans hx157_4)
      injection hv157_4 with hva_ hvn_ hvc_
      rw [hva_] at ge157_4
      rw [hvc_] at ul157_4
      have HL157_4 := Aside0.mk (show Kd.V (Kd.int .u8) 5 _ w.heap.size _ _ ((rd_T32 l0 x6_1).f1) from Kd.V_mk ul157_4 ge157_4)
      clear hva_ hvn_ hvc_ ge157_4 ul157_4
      clear hcc157 hce157
      have HR157_4 := Aside0.mk hi157_4
      have HC157_4 := Aside0.mk hl157_4
      clear hi157_4 hl157_4
      replace p157 := eq_true p157
      replace q157 := eq_true q157
      have hcz8_0 : wr.cell? ⟨gb156, 0, none⟩ = some (.int .u64 a1_0) := (blk_cell BK156.out 0).trans rfl
      have hcz8_1 : wr.cell? ⟨gb156, 1, none⟩ = some (.int .i64 a1_1) := (blk_cell BK156.out 1).trans rfl
      have hcz8_2 : wr.cell? ⟨gb156, 2, none⟩ = some (.int .u64 a1_2) := (blk_cell BK156.out 2).trans rfl
      have hcz8_3 : wr.cell? ⟨gb156, 3, none⟩ = some (.int .i64 a1_3) := (blk_cell BK156.out 3).trans rfl
      have hfz8_0 := blk_frozen BK156.out 0
      have hfz8_1 := blk_frozen BK156.out 1
      have hfz8_2 := blk_frozen BK156.out 2
      have hfz8_3 := blk_frozen BK156.out 3
      go_wp2
      repeat (go_quiet (fail); try go_wp2)
      go_roundg k1
      case measure => have := HK1.out; omega
      case rel => exact ⟨(wrap64 (x6_1 + 1)), (by first | rfl | (simp; done) | (simp [*]; done)), H', ⟨by have := HK1.out; omega⟩, ⟨by (with_reducible repeat (first | apply Kd.V_alloc | apply Kd.V_drewN | apply Kd.V_drew)); exact HO_0.out⟩, ⟨by (with_reducible repeat (first | refine blk_drewN ?_ _ | refine blk_drew ?_ | refine blk_alloc ?_ _)); exact BK156.out⟩, ⟨by repeat (first | (with_reducible first | exact HB.out | apply below_alloc | apply pw_below_drewN | apply below_drew1 | refine below_set ?_ GE156.out) | exact HB.out)⟩⟩
    ·
     rw [if_neg c5] at H
     exact absurd H (by simp)
   ·
    rw [if_neg c4] at H
    have c4b0 : decide (x6_1 < (l0.length : Int)) = false := decide_eq_false c4
    clear c4
    simp only [Option.some.injEq, Prod.mk.injEq] at H
    obtain ⟨rfl, rfl⟩ := H
    go_wp2
    repeat (go_quiet (fail); try go_wp2)
    go_ret2
    exact ⟨.slice none 0 0, by first | rfl | (simp [errW_none, errW_some] <;> rfl) | (simp [*, errW_none, errW_some] <;> rfl), Kd.V_mono (Kd.R_V (base := 0) (ok := fun k_ => w.heap.size ≤ k_) (Kd.R_nil _ _ _ _ _)) (fun k_ hk => by first | exact ⟨(.inr (hk.1)), hk.2⟩ | exact (.inr (hk))), by repeat (first | (with_reducible first | exact HB.out | apply below_alloc | apply pw_below_drewN | apply below_drew1 | refine below_set ?_ GE156.out) | exact HB.out)⟩
end Go.Proofs.Ytioooiflpabngaa.PAll
end
section
namespace Go.Proofs.Ytioooiflpabngaa.PAll
open Go.RowKit Go.Proofs.YtioooiflpabngaaW.PrintWords
set_option linter.unusedVariables false
set_option linter.unusedSimpArgs false
def Ev {α : Type} (g : Nat → Option α) (r : α) : Prop := ∃ K, ∀ k, K ≤ k → g k = some r
theorem Ev.get {α : Type} {g : Nat → Option α} {r : α} (h : Ev g r) : ∃ k, g k = some r := let ⟨K, hK⟩ := h; ⟨K, hK K (Nat.le_refl _)⟩
theorem Ev.const {α : Type} {g : Nat → Option α} {r : α} (h : ∀ k, g k = some r) : Ev g r := ⟨0, fun k _ => h k⟩
theorem Ev.congr {α : Type} {g b : Nat → Option α} {r : α} (hs : ∀ k, g k = b k) (h : Ev b r) : Ev g r := let ⟨K, hK⟩ := h; ⟨K, fun k hk => (hs k).trans (hK k hk)⟩
theorem Ev.step {α : Type} {g b : Nat → Option α} {r : α} (hs : ∀ k, g (k + 1) = b k) (h : Ev b r) : Ev g r := by
  obtain ⟨K, hK⟩ := h
  refine ⟨K + 1, fun k hk => ?_⟩
  obtain ⟨k, rfl⟩ : ∃ k', k = k' + 1 := ⟨k - 1, by omega⟩
  exact (hs k).trans (hK k (by omega))
theorem Ev.bind {α β : Type} {f : Nat → Option α} {h : Nat → α → Option β} {a : α} {r : β} (hf : Ev f a) (hh : Ev (fun k => h k a) r) : Ev (fun k => (f k).bind (h k)) r := by
  obtain ⟨K, hK⟩ := hf
  obtain ⟨K2, hK2⟩ := hh
  refine ⟨max K K2, fun k hk => ?_⟩
  simp only [hK k (by omega), Option.bind_some]
  exact hK2 k (by omega)
theorem Ev.uniq {α : Type} {g : Nat → Option α} {r r' : α} (h : Ev g r) (h' : Ev g r') : r = r' := by
  obtain ⟨K, hK⟩ := h
  obtain ⟨K2, hK2⟩ := h'
  have a := hK (max K K2) (by omega)
  have b := hK2 (max K K2) (by omega)
  exact Option.some.inj (a.symm.trans b)
theorem wrap_nat {n : Nat} (h : n < 9223372036854775807) : wrap64 ((n : Int) + 1) = ((n + 1 : Nat) : Int) := by unfold wrap64; omega
theorem rdE_nat {l : List S32} {n : Nat} (h : n < l.length) : rd_T32 l (n : Int) = l[n] := by
  unfold rd_T32
  rw [List.getD_eq_getElem?_getD, Int.toNat_natCast, List.getElem?_eq_getElem h]
  rfl
theorem rdL_nat {l : List S27} {n : Nat} (h : n < l.length) : rd_T27 l (n : Int) = l[n] := by
  unfold rd_T27
  rw [List.getD_eq_getElem?_getD, Int.toNat_natCast, List.getElem?_eq_getElem h]
  rfl
theorem eqL_spell (a b : S27) : ((a.f0.f0 == b.f0.f0 && (a.f0.f1 == b.f0.f1)) && (a.f1 == b.f1 && (a.f2 == b.f2))) = eqL a b := rfl
theorem refCompare_ev (a b : S25) : Ev (fun k => folkmootref04_Compare.f k a.f0 a.f1 b.f0 b.f1) (cmpV a b) := by
  refine ⟨1, fun k hk => ?_⟩
  obtain ⟨k, rfl⟩ : ∃ k', k = k' + 1 := ⟨k - 1, by omega⟩
  unfold folkmootref04_Compare.f folkmootref04_Compare.j0 cmpV cmpI
  rcases Int.lt_trichotomy a.f0 b.f0 with h | h | h
  · simp [h, show ¬ b.f0 < a.f0 by omega, show ¬ a.f0 = b.f0 by omega]
  · rcases Int.lt_trichotomy a.f1 b.f1 with h2 | h2 | h2
    · simp [h, h2, show ¬ b.f1 < a.f1 by omega, show ¬ a.f1 = b.f1 by omega]
    · simp [h, h2]
    · simp [h, h2, show ¬ a.f1 < b.f1 by omega, show ¬ a.f1 = b.f1 by omega]
  · simp [h, show ¬ a.f0 < b.f0 by omega, show ¬ a.f0 = b.f0 by omega]
theorem refLess_ev (a b : S27) : Ev (fun k => folkmootref05_Less.f k a.f0.f0 a.f0.f1 a.f1 a.f2 b.f0.f0 b.f0.f1 b.f1 b.f2) (decide (cmpL a b < 0)) := by
  unfold folkmootref05_Less.f
  refine Ev.bind (refCompare_ev a.f0 b.f0) (Ev.const fun k => ?_)
  unfold cmpL
  by_cases h : cmpV a.f0 b.f0 = 0
  · simp only [h, if_true]
    unfold cmpI
    rcases Int.lt_trichotomy a.f1 b.f1 with h1 | h1 | h1
    · simp [h1, show ¬ b.f1 < a.f1 by omega]
    · rcases Int.lt_trichotomy a.f2 b.f2 with h2 | h2 | h2
      · simp [h1, h2, show ¬ b.f2 < a.f2 by omega]
      · simp [h1, h2]
      · simp [h1, h2, show ¬ a.f2 < b.f2 by omega]
    · simp [h1, show ¬ a.f1 < b.f1 by omega, show ¬ a.f1 = b.f1 by omega]
  · simp [h]
def foundE (l : List S32) (at_ : S27) : List Int × Bool := match findE l at_ with | some m => (m, true) | none => ([], false)
theorem foundE_cons (x : S32) (l : List S32) (at_ : S27) : foundE (x :: l) at_ = if eqL x.f0 at_ = true then (x.f1, true) else foundE l at_ := by
  unfold foundE findE
  by_cases h : eqL x.f0 at_ = true <;> simp [List.find?_cons, h]
theorem refFind_loop (l : List S32) (at_ : S27) (hl : l.length < 9223372036854775807) : ∀ (d i : Nat), d = l.length - i → i ≤ l.length → Ev (fun k => folkmootref15_Find.l0 k l (i : Int) at_.f0.f0 at_.f0.f1 at_.f1 at_.f2) (foundE (l.drop i) at_) := by
  intro d
  induction d with
  | zero =>
    intro i hd hi
    have : i = l.length := by omega
    subst this
    refine Ev.step (b := fun _ => some ([], false)) (fun k => ?_) (Ev.const fun _ => by simp [foundE, findE])
    simp [folkmootref15_Find.l0]
  | succ d ih =>
    intro i hd hi
    have hlt : i < l.length := by omega
    rw [List.drop_eq_getElem_cons hlt, foundE_cons]
    refine Ev.step (b := fun k => if eqL l[i].f0 at_ = true then some (l[i].f1, true) else folkmootref15_Find.l0 k l ((i + 1 : Nat) : Int) at_.f0.f0 at_.f0.f1 at_.f1 at_.f2) (fun k => ?_) ?_
    · rw [folkmootref15_Find.l0, if_pos (by omega), if_pos (by omega), rdE_nat hlt, eqL_spell, wrap_nat (by omega)]
    · by_cases h : eqL l[i].f0 at_ = true
      · simp only [h, if_true]; exact Ev.const fun _ => rfl
      · simp only [h]
        exact ih (i + 1) (by omega) (by omega)
theorem refFind_ev (l : List S32) (at_ : S27) (hl : l.length < 9223372036854775807) : Ev (fun k => folkmootref15_Find.f k l at_.f0.f0 at_.f0.f1 at_.f1 at_.f2) (foundE l at_) := by
  have := refFind_loop l at_ hl l.length 0 (by omega) (by omega)
  simpa [folkmootref15_Find.f] using this
end Go.Proofs.Ytioooiflpabngaa.PAll
end
section
namespace Go.Proofs.Ytioooiflpabngaa.PAll
open Go.RowKit Go.Proofs.YtioooiflpabngaaW.PrintWords Go.Proofs.YtioooiflpabngaaW.PrintLast Go.Proofs.YtioooiflpabngaaW.PrintMore
attribute [local go_sem] max2_int min2_int max_two min_two max_three min_three max_four min_four   -- for this text's walks alone
set_option linter.unusedVariables false
set_option linter.unusedSimpArgs false
def cmp_Or_int.l0 : Nat → Int → List Int → Int → Int → Option (Int)
 | 0, _, _, _, _ => none
 | k + 1, x3, x6, x7, x8 => if x8 < x7 then (if 0 ≤ x8 then (if x8 < (x6.length : Int) then (if (rd x6 x8) = x3 then (cmp_Or_int.l0 k x3 x6 x7 (wrap64 (x8 + 1))) else (some (rd x6 x8))) else (none)) else (none)) else (some x3)
def cmp_Or_int.f (k : Nat) (l0 : List Int) : Option (Int) := cmp_Or_int.l0 k 0 l0 (l0.length : Int) 0
theorem cmp_Or_int.mono_l : ∀ k, (∀ y0 y1 y2 y3, LeO (cmp_Or_int.l0 k y0 y1 y2 y3) (cmp_Or_int.l0 (k + 1) y0 y1 y2 y3))
 | 0 => fun _ _ _ _ r h => by simp [cmp_Or_int.l0] at h
 | k + 1 => by
  have ih0 := cmp_Or_int.mono_l k
  ·
   intro y0 y1 y2 y3
   unfold cmp_Or_int.l0
   repeat' first
   | (with_reducible exact ih0 _ _ _ _)
   | (with_reducible exact LeO.refl _)
   | (with_reducible exact LeO.none _)
   | (with_reducible refine LeO.ite ?_ ?_)
   | (with_reducible refine LeO.bind ?_ (fun _ => ?_))
   | exact ih0 _ _ _ _
   | exact LeO.none _
   | refine LeO.ite ?_ ?_
   | refine LeO.bind ?_ (fun _ => ?_)
theorem cmp_Or_int.mono : ∀ a0 k, LeO (cmp_Or_int.f k a0) (cmp_Or_int.f (k + 1) a0) := by
 intro a0 k
 have ih0 := cmp_Or_int.mono_l k
 unfold cmp_Or_int.f
 repeat' first
   | (with_reducible exact ih0 _ _ _ _)
   | (with_reducible exact LeO.refl _)
   | (with_reducible exact LeO.none _)
   | (with_reducible refine LeO.ite ?_ ?_)
   | (with_reducible refine LeO.bind ?_ (fun _ => ?_))
   | exact ih0 _ _ _ _
   | exact LeO.none _
   | refine LeO.ite ?_ ?_
   | refine LeO.bind ?_ (fun _ => ?_)
set_option maxHeartbeats 8000000 in
set_option maxRecDepth 100000 in
theorem cmp_Or_int.calls (k : Nat) (A0 : Option Addr) (c0 : Nat) (l0 : List Int) (r : Int) (w : World) (hr0 : Kd.C (Kd.int .i64) w A0 l0.length l0) (hc0 : l0.length ≤ c0) (h : cmp_Or_int.f k l0 = some r) :
  Calls Try.prog 85 #[.slice A0 l0.length c0] w fun e w' => e = .returned (.int .i64 r) ∧ Drawn0 w w' := by
 have HR0 := Aside0.mk hr0
 have HC0 := Aside0.mk hc0
 clear hr0 hc0
 have H : (cmp_Or_int.l0 k 0 l0 (l0.length : Int) 0) = some r := h
 clear h
 have H' := Aside0.mk H
 clear H
 go_enter Try.func85, Try.ntmps85
 go_wp2
 go_loopg [8] k (fun kq v8 w' => ∃ (x8_1 : Int), v8 = .int .i64 x8_1 ∧ Aside0 (cmp_Or_int.l0 kq 0 l0 (l0.length : Int) x8_1 = some r) ∧ Aside0 (kq ≤ k) ∧ Drawn0 w w')
 case atStart => exact ⟨(0), (by first | rfl | (simp; done) | (simp [*]; done)), H', ⟨Nat.le_refl _⟩, by repeat (first | exact Drawn0.refl _ | apply Drawn0.step)⟩
 case round =>
  clear H'
  obtain ⟨x8_1, rfl, HA, HK1, ⟨m1, rfl⟩⟩ := hrel
  cases gk with
  | zero => exact absurd HA.out (by simp [cmp_Or_int.l0])
  | succ k1 =>
   have H := HA.out
   clear HA
   simp only [cmp_Or_int.l0] at H
   by_cases c2 : x8_1 < (l0.length : Int)
   ·
    rw [if_pos c2] at H
    have c2b0 : decide (x8_1 < (l0.length : Int)) = true := decide_eq_true c2
    clear c2
    by_cases c3 : 0 ≤ x8_1
    ·
     rw [if_pos c3] at H
     have c3b0 : decide (0 ≤ x8_1) = true := decide_eq_true c3
     clear c3
     by_cases c4 : x8_1 < (l0.length : Int)
     ·
      rw [if_pos c4] at H
      have c4b0 : decide (x8_1 < (l0.length : Int)) = true := decide_eq_true c4
      clear c4
      by_cases c5 : (rd l0 x8_1) = 0
      ·
       rw [if_pos c5] at H
       have c5b0 : ((rd l0 x8_1) == 0) = true := beq_iff_eq.mpr c5
       have c5b1 : ((rd l0 x8_1) != 0) = false := bne_eq_false_iff_eq.mpr c5
       clear c5
       have H' := Aside0.mk H
       clear H
       have p192 : 0 ≤ (x8_1 : Int) := of_decide_eq_true zs_
       have q192 : x8_1 < (l0.length : Int) := of_decide_eq_true zs_
       obtain ⟨ad192, e192, hx192_0⟩ := Kd.at_int HR0.out x8_1 p192 q192
       cases e192
       replace p192 := eq_true p192
       replace q192 := eq_true q192
       go_wp2
       go_roundg k1
       case measure => have := HK1.out; omega
       case rel => exact ⟨(wrap64 (x8_1 + 1)), (by first | rfl | (simp; done) | (simp [*]; done)), H', ⟨by have := HK1.out; omega⟩, by repeat (first | exact Drawn0.refl _ | apply Drawn0.step)⟩
      ·
       rw [if_neg c5] at H
       have c5b0 : ((rd l0 x8_1) == 0) = false := beq_eq_false_iff_ne.mpr c5
       have c5b1 : ((rd l0 x8_1) != 0) = true := bne_iff_ne.mpr c5
       obtain rfl := Option.some.inj H
       have p192 : 0 ≤ (x8_1 : Int) := of_decide_eq_true zs_
       have q192 : x8_1 < (l0.length : Int) := of_decide_eq_true zs_
       obtain ⟨ad192, e192, hx192_0⟩ := Kd.at_int HR0.out x8_1 p192 q192
       cases e192
       replace p192 := eq_true p192
       replace q192 := eq_true q192
       go_wp2
       go_ret
       exact ⟨by first | rfl | (simp; done) | (simp [*]; done), by repeat (first | exact Drawn0.refl _ | apply Drawn0.step)⟩
     ·
      rw [if_neg c4] at H
      exact absurd H (by simp)
    ·
     rw [if_neg c3] at H
     exact absurd H (by simp)
   ·
    rw [if_neg c2] at H
    have c2b0 : decide (x8_1 < (l0.length : Int)) = false := decide_eq_false c2
    clear c2
    obtain rfl := Option.some.inj H
    go_wp2
    go_ret
    exact ⟨by first | rfl | (simp; done) | (simp [*]; done), by repeat (first | exact Drawn0.refl _ | apply Drawn0.step)⟩
end Go.Proofs.Ytioooiflpabngaa.PAll
end
section
namespace Go.Proofs.Ytioooiflpabngaa.PAll
open Go.RowKit Go.Proofs.YtioooiflpabngaaW.PrintWords Go.Proofs.YtioooiflpabngaaW.PrintLast Go.Proofs.YtioooiflpabngaaW.PrintMore
attribute [local go_sem] max2_int min2_int max_two min_two max_three min_three max_four min_four   -- for this text's walks alone
set_option linter.unusedVariables false
set_option linter.unusedSimpArgs false
def cmp_isNaN_uint64.f (a0 : Int) : Option (Bool) := some (a0 != a0)
set_option maxHeartbeats 8000000 in
set_option maxRecDepth 100000 in
theorem cmp_isNaN_uint64.calls (a0 : Int) (r : Bool) (w : World) (h : cmp_isNaN_uint64.f a0 = some r) :
  Calls Try.prog 117 #[.int .u64 a0] w fun e w' => e = .returned (.bool r) ∧ Drawn0 w w' := by
 have H : (some (a0 != a0)) = some r := h
 clear h
 obtain rfl := Option.some.inj H
 go_enter Try.func117, Try.ntmps117
 go_wp2
 go_ret
 exact ⟨by first | rfl | (simp; done) | (simp [*]; done), by repeat (first | exact Drawn0.refl _ | apply Drawn0.step)⟩
end Go.Proofs.Ytioooiflpabngaa.PAll
end
section
namespace Go.Proofs.Ytioooiflpabngaa.PAll
open Go.RowKit Go.Proofs.YtioooiflpabngaaW.PrintWords Go.Proofs.YtioooiflpabngaaW.PrintLast Go.Proofs.YtioooiflpabngaaW.PrintMore
attribute [local go_sem] max2_int min2_int max_two min_two max_three min_three max_four min_four   -- for this text's walks alone
set_option linter.unusedVariables false
set_option linter.unusedSimpArgs false
def cmp_Compare_uint64.f (a0 : Int) (a1 : Int) : Option (Int) := (cmp_isNaN_uint64.f a0).bind fun t193 => ((cmp_isNaN_uint64.f a1).bind fun t194 => (if t193 = true then (if t194 = true then (some 0) else (some (-1))) else (if t194 = true then (some 1) else (if a0 < a1 then (some (-1)) else (if a0 > a1 then (some 1) else (some 0))))))
set_option maxHeartbeats 8000000 in
set_option maxRecDepth 100000 in
theorem cmp_Compare_uint64.calls (a0 : Int) (a1 : Int) (r : Int) (w : World) (h : cmp_Compare_uint64.f a0 a1 = some r) :
  Calls Try.prog 87 #[.int .u64 a0, .int .u64 a1] w fun e w' => e = .returned (.int .i64 r) ∧ Drawn0 w w' := by
 have H : ((cmp_isNaN_uint64.f a0).bind fun t193 => ((cmp_isNaN_uint64.f a1).bind fun t194 => (if t193 = true then (if t194 = true then (some 0) else (some (-1))) else (if t194 = true then (some 1) else (if a0 < a1 then (some (-1)) else (if a0 > a1 then (some 1) else (some 0))))))) = some r := h
 clear h
 replace H := Option.bind_eq_some_iff.mp H
 obtain ⟨t193, A30, H⟩ := H
 replace H : ((cmp_isNaN_uint64.f a1).bind fun t194 => (if t193 = true then (if t194 = true then (some 0) else (some (-1))) else (if t194 = true then (some 1) else (if a0 < a1 then (some (-1)) else (if a0 > a1 then (some 1) else (some 0)))))) = some r := H
 have A3 := Aside0.mk A30
 clear A30
 replace H := Option.bind_eq_some_iff.mp H
 obtain ⟨t194, A40, H⟩ := H
 replace H : (if t193 = true then (if t194 = true then (some 0) else (some (-1))) else (if t194 = true then (some 1) else (if a0 < a1 then (some (-1)) else (if a0 > a1 then (some 1) else (some 0))))) = some r := H
 have A4 := Aside0.mk A40
 clear A40
 by_cases c5 : t193 = true
 ·
  subst c5
  have H1 : (if t194 = true then (some 0) else (some (-1))) = some r := by rw [if_pos rfl] at H; exact H
  clear H
  have H := H1
  clear H1
  by_cases c6 : t194 = true
  ·
   subst c6
   have H1 : (some 0) = some r := by rw [if_pos rfl] at H; exact H
   clear H
   have H := H1
   clear H1
   obtain rfl := Option.some.inj H
   go_enter Try.func87, Try.ntmps87
   go_wp2_with (first | ((with_reducible refine gate_callee (f := 117) rfl ?_); refine goesL_ (some 8) rfl rfl Try.func117 (by kernel_rfl) rfl #[.int .u64 a0] rfl za_ ?_; (with_reducible refine (cmp_isNaN_uint64.calls a0 true _ A3.out).mono ?_); rintro e w' ⟨rfl, ⟨nd, rfl⟩⟩; refine ⟨_, rfl, ?_⟩) | ((with_reducible refine gate_callee (f := 117) rfl ?_); refine goesL_ (some 10) rfl rfl Try.func117 (by kernel_rfl) rfl #[.int .u64 a1] rfl za_ ?_; (with_reducible refine (cmp_isNaN_uint64.calls a1 true _ A4.out).mono ?_); rintro e w' ⟨rfl, ⟨nd, rfl⟩⟩; refine ⟨_, rfl, ?_⟩))
   go_ret
   exact ⟨by first | rfl | (simp; done) | (simp [*]; done), by repeat (first | exact Drawn0.refl _ | apply Drawn0.step)⟩
  ·
   replace c6 := Bool.eq_false_iff.mpr c6
   subst c6
   have H1 : (some (-1)) = some r := by rw [if_neg (show ¬ (false = true) by decide)] at H; exact H
   clear H
   have H := H1
   clear H1
   obtain rfl := Option.some.inj H
   go_enter Try.func87, Try.ntmps87
   go_wp2_with (first | ((with_reducible refine gate_callee (f := 117) rfl ?_); refine goesL_ (some 8) rfl rfl Try.func117 (by kernel_rfl) rfl #[.int .u64 a0] rfl za_ ?_; (with_reducible refine (cmp_isNaN_uint64.calls a0 true _ A3.out).mono ?_); rintro e w' ⟨rfl, ⟨nd, rfl⟩⟩; refine ⟨_, rfl, ?_⟩) | ((with_reducible refine gate_callee (f := 117) rfl ?_); refine goesL_ (some 10) rfl rfl Try.func117 (by kernel_rfl) rfl #[.int .u64 a1] rfl za_ ?_; (with_reducible refine (cmp_isNaN_uint64.calls a1 false _ A4.out).mono ?_); rintro e w' ⟨rfl, ⟨nd, rfl⟩⟩; refine ⟨_, rfl, ?_⟩))
   go_ret
   exact ⟨by first | rfl | (simp; done) | (simp [*]; done), by repeat (first | exact Drawn0.refl _ | apply Drawn0.step)⟩
 ·
  replace c5 := Bool.eq_false_iff.mpr c5
  subst c5
  have H1 : (if t194 = true then (some 1) else (if a0 < a1 then (some (-1)) else (if a0 > a1 then (some 1) else (some 0)))) = some r := by rw [if_neg (show ¬ (false = true) by decide)] at H; exact H
  clear H
  have H := H1
  clear H1
  by_cases c7 : t194 = true
  ·
   subst c7
   have H1 : (some 1) = some r := by rw [if_pos rfl] at H; exact H
   clear H
   have H := H1
   clear H1
   obtain rfl := Option.some.inj H
   go_enter Try.func87, Try.ntmps87
   go_wp2_with (first | ((with_reducible refine gate_callee (f := 117) rfl ?_); refine goesL_ (some 8) rfl rfl Try.func117 (by kernel_rfl) rfl #[.int .u64 a0] rfl za_ ?_; (with_reducible refine (cmp_isNaN_uint64.calls a0 false _ A3.out).mono ?_); rintro e w' ⟨rfl, ⟨nd, rfl⟩⟩; refine ⟨_, rfl, ?_⟩) | ((with_reducible refine gate_callee (f := 117) rfl ?_); refine goesL_ (some 10) rfl rfl Try.func117 (by kernel_rfl) rfl #[.int .u64 a1] rfl za_ ?_; (with_reducible refine (cmp_isNaN_uint64.calls a1 true _ A4.out).mono ?_); rintro e w' ⟨rfl, ⟨nd, rfl⟩⟩; refine ⟨_, rfl, ?_⟩))
   go_ret
   exact ⟨by first | rfl | (simp; done) | (simp [*]; done), by repeat (first | exact Drawn0.refl _ | apply Drawn0.step)⟩
  ·
   replace c7 := Bool.eq_false_iff.mpr c7
   subst c7
   have H1 : (if a0 < a1 then (some (-1)) else (if a0 > a1 then (some 1) else (some 0))) = some r := by rw [if_neg (show ¬ (false = true) by decide)] at H; exact H
   clear H
   have H := H1
   clear H1
   by_cases c8 : a0 < a1
   ·
    rw [if_pos c8] at H
    have c8b0 : decide (a0 < a1) = true := decide_eq_true c8
    clear c8
    obtain rfl := Option.some.inj H
    go_enter Try.func87, Try.ntmps87
    go_wp2_with (first | ((with_reducible refine gate_callee (f := 117) rfl ?_); refine goesL_ (some 8) rfl rfl Try.func117 (by kernel_rfl) rfl #[.int .u64 a0] rfl za_ ?_; (with_reducible refine (cmp_isNaN_uint64.calls a0 false _ A3.out).mono ?_); rintro e w' ⟨rfl, ⟨nd, rfl⟩⟩; refine ⟨_, rfl, ?_⟩) | ((with_reducible refine gate_callee (f := 117) rfl ?_); refine goesL_ (some 10) rfl rfl Try.func117 (by kernel_rfl) rfl #[.int .u64 a1] rfl za_ ?_; (with_reducible refine (cmp_isNaN_uint64.calls a1 false _ A4.out).mono ?_); rintro e w' ⟨rfl, ⟨nd, rfl⟩⟩; refine ⟨_, rfl, ?_⟩))
    go_ret
    exact ⟨by first | rfl | (simp; done) | (simp [*]; done), by repeat (first | exact Drawn0.refl _ | apply Drawn0.step)⟩
   ·
    rw [if_neg c8] at H
    have c8b0 : decide (a0 < a1) = false := decide_eq_false c8
    clear c8
    by_cases c9 : a0 > a1
    ·
     rw [if_pos c9] at H
     have c9b0 : decide (a1 < a0) = true := decide_eq_true c9
     clear c9
     obtain rfl := Option.some.inj H
     go_enter Try.func87, Try.ntmps87
     go_wp2_with (first | ((with_reducible refine gate_callee (f := 117) rfl ?_); refine goesL_ (some 8) rfl rfl Try.func117 (by kernel_rfl) rfl #[.int .u64 a0] rfl za_ ?_; (with_reducible refine (cmp_isNaN_uint64.calls a0 false _ A3.out).mono ?_); rintro e w' ⟨rfl, ⟨nd, rfl⟩⟩; refine ⟨_, rfl, ?_⟩) | ((with_reducible refine gate_callee (f := 117) rfl ?_); refine goesL_ (some 10) rfl rfl Try.func117 (by kernel_rfl) rfl #[.int .u64 a1] rfl za_ ?_; (with_reducible refine (cmp_isNaN_uint64.calls a1 false _ A4.out).mono ?_); rintro e w' ⟨rfl, ⟨nd, rfl⟩⟩; refine ⟨_, rfl, ?_⟩))
     go_ret
     exact ⟨by first | rfl | (simp; done) | (simp [*]; done), by repeat (first | exact Drawn0.refl _ | apply Drawn0.step)⟩
    ·
     rw [if_neg c9] at H
     have c9b0 : decide (a1 < a0) = false := decide_eq_false c9
     clear c9
     obtain rfl := Option.some.inj H
     go_enter Try.func87, Try.ntmps87
     go_wp2_with (first | ((with_reducible refine gate_callee (f := 117) rfl ?_); refine goesL_ (some 8) rfl rfl Try.func117 (by kernel_rfl) rfl #[.int .u64 a0] rfl za_ ?_; (with_reducible refine (cmp_isNaN_uint64.calls a0 false _ A3.out).mono ?_); rintro e w' ⟨rfl, ⟨nd, rfl⟩⟩; refine ⟨_, rfl, ?_⟩) | ((with_reducible refine gate_callee (f := 117) rfl ?_); refine goesL_ (some 10) rfl rfl Try.func117 (by kernel_rfl) rfl #[.int .u64 a1] rfl za_ ?_; (with_reducible refine (cmp_isNaN_uint64.calls a1 false _ A4.out).mono ?_); rintro e w' ⟨rfl, ⟨nd, rfl⟩⟩; refine ⟨_, rfl, ?_⟩))
     go_ret
     exact ⟨by first | rfl | (simp; done) | (simp [*]; done), by repeat (first | exact Drawn0.refl _ | apply Drawn0.step)⟩
end Go.Proofs.Ytioooiflpabngaa.PAll
end
section
namespace Go.Proofs.Ytioooiflpabngaa.PAll
open Go.RowKit Go.Proofs.YtioooiflpabngaaW.PrintWords Go.Proofs.YtioooiflpabngaaW.PrintLast Go.Proofs.YtioooiflpabngaaW.PrintMore
attribute [local go_sem] max2_int min2_int max_two min_two max_three min_three max_four min_four   -- for this text's walks alone
set_option linter.unusedVariables false
set_option linter.unusedSimpArgs false
def cmp_isNaN_int.f (a0 : Int) : Option (Bool) := some (a0 != a0)
set_option maxHeartbeats 8000000 in
set_option maxRecDepth 100000 in
theorem cmp_isNaN_int.calls (a0 : Int) (r : Bool) (w : World) (h : cmp_isNaN_int.f a0 = some r) :
  Calls Try.prog 118 #[.int .i64 a0] w fun e w' => e = .returned (.bool r) ∧ Drawn0 w w' := by
 have H : (some (a0 != a0)) = some r := h
 clear h
 obtain rfl := Option.some.inj H
 go_enter Try.func118, Try.ntmps118
 go_wp2
 go_ret
 exact ⟨by first | rfl | (simp; done) | (simp [*]; done), by repeat (first | exact Drawn0.refl _ | apply Drawn0.step)⟩
end Go.Proofs.Ytioooiflpabngaa.PAll
end
section
namespace Go.Proofs.Ytioooiflpabngaa.PAll
open Go.RowKit Go.Proofs.YtioooiflpabngaaW.PrintWords Go.Proofs.YtioooiflpabngaaW.PrintLast Go.Proofs.YtioooiflpabngaaW.PrintMore
attribute [local go_sem] max2_int min2_int max_two min_two max_three min_three max_four min_four   -- for this text's walks alone
set_option linter.unusedVariables false
set_option linter.unusedSimpArgs false
def cmp_Compare_int.f (a0 : Int) (a1 : Int) : Option (Int) := (cmp_isNaN_int.f a0).bind fun t195 => ((cmp_isNaN_int.f a1).bind fun t196 => (if t195 = true then (if t196 = true then (some 0) else (some (-1))) else (if t196 = true then (some 1) else (if a0 < a1 then (some (-1)) else (if a0 > a1 then (some 1) else (some 0))))))
set_option maxHeartbeats 8000000 in
set_option maxRecDepth 100000 in
theorem cmp_Compare_int.calls (a0 : Int) (a1 : Int) (r : Int) (w : World) (h : cmp_Compare_int.f a0 a1 = some r) :
  Calls Try.prog 88 #[.int .i64 a0, .int .i64 a1] w fun e w' => e = .returned (.int .i64 r) ∧ Drawn0 w w' := by
 have H : ((cmp_isNaN_int.f a0).bind fun t195 => ((cmp_isNaN_int.f a1).bind fun t196 => (if t195 = true then (if t196 = true then (some 0) else (some (-1))) else (if t196 = true then (some 1) else (if a0 < a1 then (some (-1)) else (if a0 > a1 then (some 1) else (some 0))))))) = some r := h
 clear h
 replace H := Option.bind_eq_some_iff.mp H
 obtain ⟨t195, A30, H⟩ := H
 replace H : ((cmp_isNaN_int.f a1).bind fun t196 => (if t195 = true then (if t196 = true then (some 0) else (some (-1))) else (if t196 = true then (some 1) else (if a0 < a1 then (some (-1)) else (if a0 > a1 then (some 1) else (some 0)))))) = some r := H
 have A3 := Aside0.mk A30
 clear A30
 replace H := Option.bind_eq_some_iff.mp H
 obtain ⟨t196, A40, H⟩ := H
 replace H : (if t195 = true then (if t196 = true then (some 0) else (some (-1))) else (if t196 = true then (some 1) else (if a0 < a1 then (some (-1)) else (if a0 > a1 then (some 1) else (some 0))))) = some r := H
 have A4 := Aside0.mk A40
 clear A40
 by_cases c5 : t195 = true
 ·
  subst c5
  have H1 : (if t196 = true then (some 0) else (some (-1))) = some r := by rw [if_pos rfl] at H; exact H
  clear H
  have H := H1
  clear H1
  by_cases c6 : t196 = true
  ·
   subst c6
   have H1 : (some 0) = some r := by rw [if_pos rfl] at H; exact H
   clear H
   have H := H1
   clear H1
   obtain rfl := Option.some.inj H
   go_enter Try.func88, Try.ntmps88
   go_wp2_with (first | ((with_reducible refine gate_callee (f := 118) rfl ?_); refine goesL_ (some 8) rfl rfl Try.func118 (by kernel_rfl) rfl #[.int .i64 a0] rfl za_ ?_; (with_reducible refine (cmp_isNaN_int.calls a0 true _ A3.out).mono ?_); rintro e w' ⟨rfl, ⟨nd, rfl⟩⟩; refine ⟨_, rfl, ?_⟩) | ((with_reducible refine gate_callee (f := 118) rfl ?_); refine goesL_ (some 10) rfl rfl Try.func118 (by kernel_rfl) rfl #[.int .i64 a1] rfl za_ ?_; (with_reducible refine (cmp_isNaN_int.calls a1 true _ A4.out).mono ?_); rintro e w' ⟨rfl, ⟨nd, rfl⟩⟩; refine ⟨_, rfl, ?_⟩))
   go_ret
   exact ⟨by first | rfl | (simp; done) | (simp [*]; done), by repeat (first | exact Drawn0.refl _ | apply Drawn0.step)⟩
  ·
   replace c6 := Bool.eq_false_iff.mpr c6
   subst c6
   have H1 : (some (-1)) = some r := by rw [if_neg (show ¬ (false = true) by decide)] at H; exact H
   clear H
   have H := H1
   clear H1
   obtain rfl := Option.some.inj H
   go_enter Try.func88, Try.ntmps88
   go_wp2_with (first | ((with_reducible refine gate_callee (f := 118) rfl ?_); refine goesL_ (some 8) rfl rfl Try.func118 (by kernel_rfl) rfl #[.int .i64 a0] rfl za_ ?_; (with_reducible refine (cmp_isNaN_int.calls a0 true _ A3.out).mono ?_); rintro e w' ⟨rfl, ⟨nd, rfl⟩⟩; refine ⟨_, rfl, ?_⟩) | ((with_reducible refine gate_callee (f := 118) rfl ?_); refine goesL_ (some 10) rfl rfl Try.func118 (by kernel_rfl) rfl #[.int .i64 a1] rfl za_ ?_; (with_reducible refine (cmp_isNaN_int.calls a1 false _ A4.out).mono ?_); rintro e w' ⟨rfl, ⟨nd, rfl⟩⟩; refine ⟨_, rfl, ?_⟩))
   go_ret
   exact ⟨by first | rfl | (simp; done) | (simp [*]; done), by repeat (first | exact Drawn0.refl _ | apply Drawn0.step)⟩
 ·
  replace c5 := Bool.eq_false_iff.mpr c5
  subst c5
  have H1 : (if t196 = true then (some 1) else (if a0 < a1 then (some (-1)) else (if a0 > a1 then (some 1) else (some 0)))) = some r := by rw [if_neg (show ¬ (false = true) by decide)] at H; exact H
  clear H
  have H := H1
  clear H1
  by_cases c7 : t196 = true
  ·
   subst c7
   have H1 : (some 1) = some r := by rw [if_pos rfl] at H; exact H
   clear H
   have H := H1
   clear H1
   obtain rfl := Option.some.inj H
   go_enter Try.func88, Try.ntmps88
   go_wp2_with (first | ((with_reducible refine gate_callee (f := 118) rfl ?_); refine goesL_ (some 8) rfl rfl Try.func118 (by kernel_rfl) rfl #[.int .i64 a0] rfl za_ ?_; (with_reducible refine (cmp_isNaN_int.calls a0 false _ A3.out).mono ?_); rintro e w' ⟨rfl, ⟨nd, rfl⟩⟩; refine ⟨_, rfl, ?_⟩) | ((with_reducible refine gate_callee (f := 118) rfl ?_); refine goesL_ (some 10) rfl rfl Try.func118 (by kernel_rfl) rfl #[.int .i64 a1] rfl za_ ?_; (with_reducible refine (cmp_isNaN_int.calls a1 true _ A4.out).mono ?_); rintro e w' ⟨rfl, ⟨nd, rfl⟩⟩; refine ⟨_, rfl, ?_⟩))
   go_ret
   exact ⟨by first | rfl | (simp; done) | (simp [*]; done), by repeat (first | exact Drawn0.refl _ | apply Drawn0.step)⟩
  ·
   replace c7 := Bool.eq_false_iff.mpr c7
   subst c7
   have H1 : (if a0 < a1 then (some (-1)) else (if a0 > a1 then (some 1) else (some 0))) = some r := by rw [if_neg (show ¬ (false = true) by decide)] at H; exact H
   clear H
   have H := H1
   clear H1
   by_cases c8 : a0 < a1
   ·
    rw [if_pos c8] at H
    have c8b0 : decide (a0 < a1) = true := decide_eq_true c8
    clear c8
    obtain rfl := Option.some.inj H
    go_enter Try.func88, Try.ntmps88
    go_wp2_with (first | ((with_reducible refine gate_callee (f := 118) rfl ?_); refine goesL_ (some 8) rfl rfl Try.func118 (by kernel_rfl) rfl #[.int .i64 a0] rfl za_ ?_; (with_reducible refine (cmp_isNaN_int.calls a0 false _ A3.out).mono ?_); rintro e w' ⟨rfl, ⟨nd, rfl⟩⟩; refine ⟨_, rfl, ?_⟩) | ((with_reducible refine gate_callee (f := 118) rfl ?_); refine goesL_ (some 10) rfl rfl Try.func118 (by kernel_rfl) rfl #[.int .i64 a1] rfl za_ ?_; (with_reducible refine (cmp_isNaN_int.calls a1 false _ A4.out).mono ?_); rintro e w' ⟨rfl, ⟨nd, rfl⟩⟩; refine ⟨_, rfl, ?_⟩))
    go_ret
    exact ⟨by first | rfl | (simp; done) | (simp [*]; done), by repeat (first | exact Drawn0.refl _ | apply Drawn0.step)⟩
   ·
    rw [if_neg c8] at H
    have c8b0 : decide (a0 < a1) = false := decide_eq_false c8
    clear c8
    by_cases c9 : a0 > a1
    ·
     rw [if_pos c9] at H
     have c9b0 : decide (a1 < a0) = true := decide_eq_true c9
     clear c9
     obtain rfl := Option.some.inj H
     go_enter Try.func88, Try.ntmps88
     go_wp2_with (first | ((with_reducible refine gate_callee (f := 118) rfl ?_); refine goesL_ (some 8) rfl rfl Try.func118 (by kernel_rfl) rfl #[.int .i64 a0] rfl za_ ?_; (with_reducible refine (cmp_isNaN_int.calls a0 false _ A3.out).mono ?_); rintro e w' ⟨rfl, ⟨nd, rfl⟩⟩; refine ⟨_, rfl, ?_⟩) | ((with_reducible refine gate_callee (f := 118) rfl ?_); refine goesL_ (some 10) rfl rfl Try.func118 (by kernel_rfl) rfl #[.int .i64 a1] rfl za_ ?_; (with_reducible refine (cmp_isNaN_int.calls a1 false _ A4.out).mono ?_); rintro e w' ⟨rfl, ⟨nd, rfl⟩⟩; refine ⟨_, rfl, ?_⟩))
     go_ret
     exact ⟨by first | rfl | (simp; done) | (simp [*]; done), by repeat (first | exact Drawn0.refl _ | apply Drawn0.step)⟩
    ·
     rw [if_neg c9] at H
     have c9b0 : decide (a1 < a0) = false := decide_eq_false c9
     clear c9
     obtain rfl := Option.some.inj H
     go_enter Try.func88, Try.ntmps88
     go_wp2_with (first | ((with_reducible refine gate_callee (f := 118) rfl ?_); refine goesL_ (some 8) rfl rfl Try.func118 (by kernel_rfl) rfl #[.int .i64 a0] rfl za_ ?_; (with_reducible refine (cmp_isNaN_int.calls a0 false _ A3.out).mono ?_); rintro e w' ⟨rfl, ⟨nd, rfl⟩⟩; refine ⟨_, rfl, ?_⟩) | ((with_reducible refine gate_callee (f := 118) rfl ?_); refine goesL_ (some 10) rfl rfl Try.func118 (by kernel_rfl) rfl #[.int .i64 a1] rfl za_ ?_; (with_reducible refine (cmp_isNaN_int.calls a1 false _ A4.out).mono ?_); rintro e w' ⟨rfl, ⟨nd, rfl⟩⟩; refine ⟨_, rfl, ?_⟩))
     go_ret
     exact ⟨by first | rfl | (simp; done) | (simp [*]; done), by repeat (first | exact Drawn0.refl _ | apply Drawn0.step)⟩
end Go.Proofs.Ytioooiflpabngaa.PAll
end
section
namespace Go.Proofs.Ytioooiflpabngaa.PAll
open Go.RowKit Go.Proofs.YtioooiflpabngaaW.PrintWords Go.Proofs.YtioooiflpabngaaW.PrintLast Go.Proofs.YtioooiflpabngaaW.PrintMore
attribute [local go_sem] max2_int min2_int max_two min_two max_three min_three max_four min_four   -- for this text's walks alone
set_option linter.unusedVariables false
set_option linter.unusedSimpArgs false
def ident_Compare.f (a0_0 : Int) (a0_1 : Int) (a1_0 : Int) (a1_1 : Int) : Option (Int) := (cmp_Compare_uint64.f a0_0 a1_0).bind fun t199 => (if t199 = 0 then ((cmp_Compare_int.f a0_1 a1_1).bind fun t200 => (some t200)) else (some t199))
set_option maxHeartbeats 8000000 in
set_option maxRecDepth 100000 in
theorem ident_Compare.calls (a0_0 : Int) (a0_1 : Int) (a1_0 : Int) (a1_1 : Int) (r : Int) (w : World) (h : ident_Compare.f a0_0 a0_1 a1_0 a1_1 = some r) :
  Calls Try.prog 86 #[.agg #[.int .u64 a0_0, .int .i64 a0_1], .agg #[.int .u64 a1_0, .int .i64 a1_1]] w fun e w' => e = .returned (.int .i64 r) ∧ Below w.heap.size w w' := by
 have hu25 := Try.underlying25
 have HB := Aside0.mk (Below.refl w.heap.size w)
 have H : ((cmp_Compare_uint64.f a0_0 a1_0).bind fun t199 => (if t199 = 0 then ((cmp_Compare_int.f a0_1 a1_1).bind fun t200 => (some t200)) else (some t199))) = some r := h
 clear h
 replace H := Option.bind_eq_some_iff.mp H
 obtain ⟨t199, A30, H⟩ := H
 replace H : (if t199 = 0 then ((cmp_Compare_int.f a0_1 a1_1).bind fun t200 => (some t200)) else (some t199)) = some r := H
 have A3 := Aside0.mk A30
 clear A30
 by_cases c4 : t199 = 0
 ·
  rw [if_pos c4] at H
  have c4b0 : (t199 == 0) = true := beq_iff_eq.mpr c4
  have c4b1 : (t199 != 0) = false := bne_eq_false_iff_eq.mpr c4
  clear c4
  replace H := Option.bind_eq_some_iff.mp H
  obtain ⟨t200, A50, H⟩ := H
  replace H : (some t200) = some r := H
  have A5 := Aside0.mk A50
  clear A50
  obtain rfl := Option.some.inj H
  go_enter Try.func86, Try.ntmps86
  go_wp2_with (first | ((with_reducible refine gate_dst (N := 2) rfl ?_); refine box_event ?hg (N := 2) ?hd (cs := #[.int .u64 a0_0, .int .i64 a0_1]) (t := 25) ?hr ?_; (case hd => rfl); (case hg => rfl); (case hr => first | (go_simp; done) | (go_simp; rfl)); intro gb197 hg w6 hbox hb; have n0_ := Aside0.mk (below_step zb_ hb); have n1_ := Aside0.mk (hbox); have n2_ := Aside0.mk ((by rw [hg]; exact (below_size zb_) : w.heap.size ≤ gb197)); have n3_ := Aside0.mk ((by rw [hg]; exact (below_size zb_) : w.heap.size ≤ gb197)); clear HB; have HB := n0_; have BK197 := n1_; have GW197 := n2_; have GE197 := n3_; clear n0_ n1_ n2_ n3_; clear hb hbox hg) | ((with_reducible refine gate_dst (N := 3) rfl ?_); refine box_event ?hg (N := 3) ?hd (cs := #[.int .u64 a1_0, .int .i64 a1_1]) (t := 25) ?hr ?_; (case hd => rfl); (case hg => rfl); (case hr => first | (go_simp; done) | (go_simp; rfl)); intro gb198 hg w7 hbox hb; have n0_ := zk_ BK197 hb; have n1_ := Aside0.mk (below_step zb_ hb); have n2_ := Aside0.mk (hbox); have n3_ := Aside0.mk ((by rw [hg]; exact (below_size zb_) : w.heap.size ≤ gb198)); have n4_ := Aside0.mk ((by rw [hg]; exact (below_size zb_) : w.heap.size ≤ gb198)); have n5_ := Aside0.mk ((by rw [hg]; exact Nat.ne_of_lt (blk_lt (g := gb197) (o := .cells #[.int .u64 a0_0, .int .i64 a0_1] 25 (0, 0)) (by (with_reducible repeat (first | refine blk_drewN ?_ _ | refine blk_drew ?_ | refine blk_alloc ?_ _)); exact BK197.out)) : gb197 ≠ gb198)); have n6_ := Aside0.mk ((by rw [hg]; exact Nat.ne_of_gt (blk_lt (g := gb197) (o := .cells #[.int .u64 a0_0, .int .i64 a0_1] 25 (0, 0)) (by (with_reducible repeat (first | refine blk_drewN ?_ _ | refine blk_drew ?_ | refine blk_alloc ?_ _)); exact BK197.out)) : gb198 ≠ gb197)); clear BK197; clear HB; have BK197 := n0_; have HB := n1_; have BK198 := n2_; have GW198 := n3_; have GE198 := n4_; have NB197_198 := n5_; have NB198_197 := n6_; clear n0_ n1_ n2_ n3_ n4_ n5_ n6_; clear hb hbox hg; have hnb8 := NB197_198.out; have hnc8 := NB198_197.out; have hcz9_0 : w7.cell? ⟨gb197, 0, none⟩ = some (.int .u64 a0_0) := (blk_cell BK197.out 0).trans rfl; have hcz9_1 : w7.cell? ⟨gb197, 1, none⟩ = some (.int .i64 a0_1) := (blk_cell BK197.out 1).trans rfl; have hfz9_0 := blk_frozen BK197.out 0; have hfz9_1 := blk_frozen BK197.out 1; have hcz10_0 : w7.cell? ⟨gb198, 0, none⟩ = some (.int .u64 a1_0) := (blk_cell BK198.out 0).trans rfl; have hcz10_1 : w7.cell? ⟨gb198, 1, none⟩ = some (.int .i64 a1_1) := (blk_cell BK198.out 1).trans rfl; have hfz10_0 := blk_frozen BK198.out 0; have hfz10_1 := blk_frozen BK198.out 1) | ((with_reducible refine gate_callee (f := 87) rfl ?_); refine goesL_ (some 10) rfl rfl Try.func87 (by kernel_rfl) rfl #[.int .u64 a0_0, .int .u64 a1_0] rfl za_ ?_; (with_reducible refine (cmp_Compare_uint64.calls a0_0 a1_0 t199 _ A3.out).mono ?_); rintro e w' ⟨rfl, ⟨nd, rfl⟩⟩; refine ⟨_, rfl, ?_⟩) | ((with_reducible refine gate_callee (f := 88) rfl ?_); refine goesL_ (some 18) rfl rfl Try.func88 (by kernel_rfl) rfl #[.int .i64 a0_1, .int .i64 a1_1] rfl za_ ?_; (with_reducible refine (cmp_Compare_int.calls a0_1 a1_1 t200 _ A5.out).mono ?_); rintro e w' ⟨rfl, ⟨nd, rfl⟩⟩; refine ⟨_, rfl, ?_⟩))
  go_ret
  exact ⟨by first | rfl | (simp [errW_none, errW_some] <;> rfl) | (simp [*, errW_none, errW_some] <;> rfl), by repeat (first | (with_reducible first | exact HB.out | apply below_alloc | apply pw_below_drewN | apply below_drew1 | refine below_set ?_ GE197.out | refine below_set ?_ GE198.out) | exact HB.out)⟩
 ·
  rw [if_neg c4] at H
  have c4b0 : (t199 == 0) = false := beq_eq_false_iff_ne.mpr c4
  have c4b1 : (t199 != 0) = true := bne_iff_ne.mpr c4
  obtain rfl := Option.some.inj H
  go_enter Try.func86, Try.ntmps86
  go_wp2_with (first | ((with_reducible refine gate_dst (N := 2) rfl ?_); refine box_event ?hg (N := 2) ?hd (cs := #[.int .u64 a0_0, .int .i64 a0_1]) (t := 25) ?hr ?_; (case hd => rfl); (case hg => rfl); (case hr => first | (go_simp; done) | (go_simp; rfl)); intro gb197 hg w11 hbox hb; have n0_ := Aside0.mk (below_step zb_ hb); have n1_ := Aside0.mk (hbox); have n2_ := Aside0.mk ((by rw [hg]; exact (below_size zb_) : w.heap.size ≤ gb197)); have n3_ := Aside0.mk ((by rw [hg]; exact (below_size zb_) : w.heap.size ≤ gb197)); clear HB; have HB := n0_; have BK197 := n1_; have GW197 := n2_; have GE197 := n3_; clear n0_ n1_ n2_ n3_; clear hb hbox hg) | ((with_reducible refine gate_dst (N := 3) rfl ?_); refine box_event ?hg (N := 3) ?hd (cs := #[.int .u64 a1_0, .int .i64 a1_1]) (t := 25) ?hr ?_; (case hd => rfl); (case hg => rfl); (case hr => first | (go_simp; done) | (go_simp; rfl)); intro gb198 hg w12 hbox hb; have n0_ := zk_ BK197 hb; have n1_ := Aside0.mk (below_step zb_ hb); have n2_ := Aside0.mk (hbox); have n3_ := Aside0.mk ((by rw [hg]; exact (below_size zb_) : w.heap.size ≤ gb198)); have n4_ := Aside0.mk ((by rw [hg]; exact (below_size zb_) : w.heap.size ≤ gb198)); have n5_ := Aside0.mk ((by rw [hg]; exact Nat.ne_of_lt (blk_lt (g := gb197) (o := .cells #[.int .u64 a0_0, .int .i64 a0_1] 25 (0, 0)) (by (with_reducible repeat (first | refine blk_drewN ?_ _ | refine blk_drew ?_ | refine blk_alloc ?_ _)); exact BK197.out)) : gb197 ≠ gb198)); have n6_ := Aside0.mk ((by rw [hg]; exact Nat.ne_of_gt (blk_lt (g := gb197) (o := .cells #[.int .u64 a0_0, .int .i64 a0_1] 25 (0, 0)) (by (with_reducible repeat (first | refine blk_drewN ?_ _ | refine blk_drew ?_ | refine blk_alloc ?_ _)); exact BK197.out)) : gb198 ≠ gb197)); clear BK197; clear HB; have BK197 := n0_; have HB := n1_; have BK198 := n2_; have GW198 := n3_; have GE198 := n4_; have NB197_198 := n5_; have NB198_197 := n6_; clear n0_ n1_ n2_ n3_ n4_ n5_ n6_; clear hb hbox hg; have hnb13 := NB197_198.out; have hnc13 := NB198_197.out; have hcz14_0 : w12.cell? ⟨gb197, 0, none⟩ = some (.int .u64 a0_0) := (blk_cell BK197.out 0).trans rfl; have hcz14_1 : w12.cell? ⟨gb197, 1, none⟩ = some (.int .i64 a0_1) := (blk_cell BK197.out 1).trans rfl; have hfz14_0 := blk_frozen BK197.out 0; have hfz14_1 := blk_frozen BK197.out 1; have hcz15_0 : w12.cell? ⟨gb198, 0, none⟩ = some (.int .u64 a1_0) := (blk_cell BK198.out 0).trans rfl; have hcz15_1 : w12.cell? ⟨gb198, 1, none⟩ = some (.int .i64 a1_1) := (blk_cell BK198.out 1).trans rfl; have hfz15_0 := blk_frozen BK198.out 0; have hfz15_1 := blk_frozen BK198.out 1) | ((with_reducible refine gate_callee (f := 87) rfl ?_); refine goesL_ (some 10) rfl rfl Try.func87 (by kernel_rfl) rfl #[.int .u64 a0_0, .int .u64 a1_0] rfl za_ ?_; (with_reducible refine (cmp_Compare_uint64.calls a0_0 a1_0 t199 _ A3.out).mono ?_); rintro e w' ⟨rfl, ⟨nd, rfl⟩⟩; refine ⟨_, rfl, ?_⟩))
  go_ret
  exact ⟨by first | rfl | (simp [errW_none, errW_some] <;> rfl) | (simp [*, errW_none, errW_some] <;> rfl), by repeat (first | (with_reducible first | exact HB.out | apply below_alloc | apply pw_below_drewN | apply below_drew1 | refine below_set ?_ GE197.out | refine below_set ?_ GE198.out) | exact HB.out)⟩
end Go.Proofs.Ytioooiflpabngaa.PAll
end
section
namespace Go.Proofs.Ytioooiflpabngaa.PAll
open Go.RowKit Go.Proofs.YtioooiflpabngaaW.PrintWords Go.Proofs.YtioooiflpabngaaW.PrintLast Go.Proofs.YtioooiflpabngaaW.PrintMore
attribute [local go_sem] max2_int min2_int max_two min_two max_three min_three max_four min_four   -- for this text's walks alone
set_option linter.unusedVariables false
set_option linter.unusedSimpArgs false
def label_Compare.f (k : Nat) (a0_0 : Int) (a0_1 : Int) (a0_2 : Int) (a0_3 : Int) (a1_0 : Int) (a1_1 : Int) (a1_2 : Int) (a1_3 : Int) : Option (Int) := (ident_Compare.f a0_0 a0_1 a1_0 a1_1).bind fun t203 => ((cmp_Compare_uint64.f a0_2 a1_2).bind fun t204 => ((cmp_Compare_int.f a0_3 a1_3).bind fun t205 => ((cmp_Or_int.f k (([t203, t204, t205] : List Int))).bind fun t209 => (some t209))))
theorem label_Compare.mono : ∀ a0 a1 a2 a3 a4 a5 a6 a7 k, LeO (label_Compare.f k a0 a1 a2 a3 a4 a5 a6 a7) (label_Compare.f (k + 1) a0 a1 a2 a3 a4 a5 a6 a7) := by
 intro a0 a1 a2 a3 a4 a5 a6 a7 k
 unfold label_Compare.f
 repeat' first
   | (with_reducible exact cmp_Or_int.mono _ _)
   | (with_reducible exact LeO.refl _)
   | (with_reducible exact LeO.none _)
   | (with_reducible refine LeO.ite ?_ ?_)
   | (with_reducible refine LeO.bind ?_ (fun _ => ?_))
   | exact cmp_Or_int.mono _ _
   | exact LeO.none _
   | refine LeO.ite ?_ ?_
   | refine LeO.bind ?_ (fun _ => ?_)
def label_Compare.T1 : Bool × List (List Nat × List Nat) := (true, [([], []), ([0], [0]), ([], []), ([2], [2]), ([1, 3], [1, 3]), ([], []), ([5], [5]), ([], []), ([7], [7]), ([6, 8, 4], [6, 8]), ([], []), ([10], [10]), ([], []), ([12], [12]), ([11, 13, 9], [11, 13]), ([4, 9, 14], [4, 9, 14]), ([15, 14], [15]), ([16, 16, 0, 1, 2, 3, 4, 5, 6, 7, 8, 9, 10, 11, 12, 13, 14, 15, 16], [16])])
def label_Compare.B1 : List Nat := [0, 1, 0, 4, 15, 0, 32, 0, 128, 511, 0, 1024, 0, 4096, 16383, 32767, 65535, 131071]
theorem label_Compare.tab1 : rtab .any (opsOf Try.f42 1) = label_Compare.T1 := by kernel_rfl
theorem label_Compare.bits1 : waitsOk label_Compare.T1.2 label_Compare.B1 = true := by kernel_rfl
set_option maxHeartbeats 8000000 in
set_option maxRecDepth 100000 in
theorem label_Compare.calls (k : Nat) (a0_0 : Int) (a0_1 : Int) (a0_2 : Int) (a0_3 : Int) (a1_0 : Int) (a1_1 : Int) (a1_2 : Int) (a1_3 : Int) (r : Int) (w : World) (h : label_Compare.f k a0_0 a0_1 a0_2 a0_3 a1_0 a1_1 a1_2 a1_3 = some r) :
  Calls Try.prog 42 #[.agg #[.int .u64 a0_0, .int .i64 a0_1, .int .u64 a0_2, .int .i64 a0_3], .agg #[.int .u64 a1_0, .int .i64 a1_1, .int .u64 a1_2, .int .i64 a1_3]] w fun e w' => e = .returned (.int .i64 r) ∧ Below w.heap.size w w' := by
 have hu27 := Try.underlying27
 have hu25 := Try.underlying25
 have HB := Aside0.mk (Below.refl w.heap.size w)
 have H : ((ident_Compare.f a0_0 a0_1 a1_0 a1_1).bind fun t203 => ((cmp_Compare_uint64.f a0_2 a1_2).bind fun t204 => ((cmp_Compare_int.f a0_3 a1_3).bind fun t205 => ((cmp_Or_int.f k (([t203, t204, t205] : List Int))).bind fun t209 => (some t209))))) = some r := h
 clear h
 replace H := Option.bind_eq_some_iff.mp H
 obtain ⟨t203, A30, H⟩ := H
 replace H : ((cmp_Compare_uint64.f a0_2 a1_2).bind fun t204 => ((cmp_Compare_int.f a0_3 a1_3).bind fun t205 => ((cmp_Or_int.f k (([t203, t204, t205] : List Int))).bind fun t209 => (some t209)))) = some r := H
 have A3 := Aside0.mk A30
 clear A30
 replace H := Option.bind_eq_some_iff.mp H
 obtain ⟨t204, A40, H⟩ := H
 replace H : ((cmp_Compare_int.f a0_3 a1_3).bind fun t205 => ((cmp_Or_int.f k (([t203, t204, t205] : List Int))).bind fun t209 => (some t209))) = some r := H
 have A4 := Aside0.mk A40
 clear A40
 replace H := Option.bind_eq_some_iff.mp H
 obtain ⟨t205, A50, H⟩ := H
 replace H : ((cmp_Or_int.f k (([t203, t204, t205] : List Int))).bind fun t209 => (some t209)) = some r := H
 have A5 := Aside0.mk A50
 clear A50
 obtain ⟨y206, hy206⟩ : ∃ y_ : List Int, y_ = (([t203, t204, t205] : List Int)) := ⟨_, rfl⟩
 replace H : ((cmp_Or_int.f k y206).bind fun t209 => (some t209)) = some r := by first | (rw [hy206]; with_reducible exact H) | (have H2_ := (Option.bind_some _ _).symm.trans H; rw [hy206]; with_reducible exact H2_) | (have H2_ := (Option.bind_some _ _).symm.trans H; with_reducible exact H2_) | with_reducible exact H | (rw [hy206]; exact H) | exact H
 have Ny206 := Aside0.mk hy206
 clear hy206
 replace H := Option.bind_eq_some_iff.mp H
 obtain ⟨t209, A60, H⟩ := H
 replace H : (some t209) = some r := H
 have A6 := Aside0.mk A60
 clear A60
 obtain rfl := Option.some.inj H
 go_enter Try.func42, Try.ntmps42
 try go_wp2_with (first | ((with_reducible refine gate_dst (N := 2) rfl ?_); refine box_event ?hg (N := 2) ?hd (cs := #[.int .u64 a0_0, .int .i64 a0_1, .int .u64 a0_2, .int .i64 a0_3]) (t := 27) ?hr ?_; (case hd => rfl); (case hg => rfl); (case hr => first | (go_simp; done) | (go_simp; rfl)); intro gb201 hg w7 hbox hb; have n0_ := Aside0.mk (below_step zb_ hb); have n1_ := Aside0.mk (hbox); have n2_ := Aside0.mk ((by rw [hg]; exact (below_size zb_) : w.heap.size ≤ gb201)); have n3_ := Aside0.mk ((by rw [hg]; exact (below_size zb_) : w.heap.size ≤ gb201)); clear HB; have HB := n0_; have BK201 := n1_; have GW201 := n2_; have GE201 := n3_; clear n0_ n1_ n2_ n3_; clear hb hbox hg) | ((with_reducible refine gate_dst (N := 3) rfl ?_); refine box_event ?hg (N := 3) ?hd (cs := #[.int .u64 a1_0, .int .i64 a1_1, .int .u64 a1_2, .int .i64 a1_3]) (t := 27) ?hr ?_; (case hd => rfl); (case hg => rfl); (case hr => first | (go_simp; done) | (go_simp; rfl)); intro gb202 hg w8 hbox hb; have n0_ := zk_ BK201 hb; have n1_ := Aside0.mk (below_step zb_ hb); have n2_ := Aside0.mk (hbox); have n3_ := Aside0.mk ((by rw [hg]; exact (below_size zb_) : w.heap.size ≤ gb202)); have n4_ := Aside0.mk ((by rw [hg]; exact (below_size zb_) : w.heap.size ≤ gb202)); have n5_ := Aside0.mk ((by rw [hg]; exact Nat.ne_of_lt (blk_lt (g := gb201) (o := .cells #[.int .u64 a0_0, .int .i64 a0_1, .int .u64 a0_2, .int .i64 a0_3] 27 (0, 0)) (by (with_reducible repeat (first | refine blk_drewN ?_ _ | refine blk_drew ?_ | refine blk_alloc ?_ _)); exact BK201.out)) : gb201 ≠ gb202)); have n6_ := Aside0.mk ((by rw [hg]; exact Nat.ne_of_gt (blk_lt (g := gb201) (o := .cells #[.int .u64 a0_0, .int .i64 a0_1, .int .u64 a0_2, .int .i64 a0_3] 27 (0, 0)) (by (with_reducible repeat (first | refine blk_drewN ?_ _ | refine blk_drew ?_ | refine blk_alloc ?_ _)); exact BK201.out)) : gb202 ≠ gb201)); clear BK201; clear HB; have BK201 := n0_; have HB := n1_; have BK202 := n2_; have GW202 := n3_; have GE202 := n4_; have NB201_202 := n5_; have NB202_201 := n6_; clear n0_ n1_ n2_ n3_ n4_ n5_ n6_; clear hb hbox hg))
 have n0_ := Aside0.mk (blk_drew BK201.out)
 have n1_ := Aside0.mk (blk_drew BK202.out)
 have n2_ := Aside0.mk (below_drew1 HB.out)
 clear BK201
 clear BK202
 clear HB
 have BK201 := n0_
 have BK202 := n1_
 have HB := n2_
 clear n0_ n1_ n2_
 refine start_ (n := 18) (S := fun w' => w'.cell? ⟨gb201, 0, none⟩ = some (.int .u64 a0_0) ∧ w'.cell? ⟨gb201, 1, none⟩ = some (.int .i64 a0_1) ∧ w'.cell? ⟨gb201, 2, none⟩ = some (.int .u64 a0_2) ∧ w'.cell? ⟨gb201, 3, none⟩ = some (.int .i64 a0_3) ∧ w'.cell? ⟨gb202, 0, none⟩ = some (.int .u64 a1_0) ∧ w'.cell? ⟨gb202, 1, none⟩ = some (.int .i64 a1_1) ∧ w'.cell? ⟨gb202, 2, none⟩ = some (.int .u64 a1_2) ∧ w'.cell? ⟨gb202, 3, none⟩ = some (.int .i64 a1_3)) (ds := []) #[F_,F_,F_,F_,F_,F_,F_,F_,F_,F_,F_,F_,F_,F_,F_,F_,F_,F_] (by kernel_rfl) rfl rfl ⟨(blk_cell BK201.out 0).trans rfl, (blk_cell BK201.out 1).trans rfl, (blk_cell BK201.out 2).trans rfl, (blk_cell BK201.out 3).trans rfl, (blk_cell BK202.out 0).trans rfl, (blk_cell BK202.out 1).trans rfl, (blk_cell BK202.out 2).trans rfl, (blk_cell BK202.out 3).trans rfl⟩ (fun hHeld => ?_); refine with_tabW label_Compare.tab1 label_Compare.bits1 (fun HT_ HW_ => ?_)
 generalize w8.drew = w9 at BK201 BK202 HB hHeld ⊢
 refine pure_ (i := 0) (N := some 5) (v := ?_) (a' := ?_) #[T_,F_,F_,F_,F_,F_,F_,F_,F_,F_,F_,F_,F_,F_,F_,F_,F_,F_] rfl rfl (any_of HT_.out (by kernel_rfl)) (fun _ _ _ h => h) (Or.inl ⟨by rfl, ?_⟩) ?_ ?_
 rotate_left
 ·
  intro w'; go_simp; with_reducible rfl
 rotate_left
 ·
  exact zp_
 refine pure_ (i := 2) (N := some 7) (v := ?_) (a' := ?_) #[T_,F_,T_,F_,F_,F_,F_,F_,F_,F_,F_,F_,F_,F_,F_,F_,F_,F_] rfl rfl (any_of HT_.out (by kernel_rfl)) (fun _ _ _ h => h) (Or.inl ⟨by rfl, ?_⟩) ?_ ?_
 rotate_left
 ·
  intro w'; go_simp; with_reducible rfl
 rotate_left
 ·
  exact zp_
 refine pure_ (i := 5) (N := some 10) (v := ?_) (a' := ?_) #[T_,F_,T_,F_,F_,T_,F_,F_,F_,F_,F_,F_,F_,F_,F_,F_,F_,F_] rfl rfl (any_of HT_.out (by kernel_rfl)) (fun _ _ _ h => h) (Or.inl ⟨by rfl, ?_⟩) ?_ ?_
 rotate_left
 ·
  intro w'; go_simp; with_reducible rfl
 rotate_left
 ·
  exact zp_
 refine pure_ (i := 7) (N := some 12) (v := ?_) (a' := ?_) #[T_,F_,T_,F_,F_,T_,F_,T_,F_,F_,F_,F_,F_,F_,F_,F_,F_,F_] rfl rfl (any_of HT_.out (by kernel_rfl)) (fun _ _ _ h => h) (Or.inl ⟨by rfl, ?_⟩) ?_ ?_
 rotate_left
 ·
  intro w'; go_simp; with_reducible rfl
 rotate_left
 ·
  exact zp_
 refine pure_ (i := 10) (N := some 15) (v := ?_) (a' := ?_) #[T_,F_,T_,F_,F_,T_,F_,T_,F_,F_,T_,F_,F_,F_,F_,F_,F_,F_] rfl rfl (any_of HT_.out (by kernel_rfl)) (fun _ _ _ h => h) (Or.inl ⟨by rfl, ?_⟩) ?_ ?_
 rotate_left
 ·
  intro w'; go_simp; with_reducible rfl
 rotate_left
 ·
  exact zp_
 refine pure_ (i := 12) (N := some 17) (v := ?_) (a' := ?_) #[T_,F_,T_,F_,F_,T_,F_,T_,F_,F_,T_,F_,T_,F_,F_,F_,F_,F_] rfl rfl (any_of HT_.out (by kernel_rfl)) (fun _ _ _ h => h) (Or.inl ⟨by rfl, ?_⟩) ?_ ?_
 rotate_left
 ·
  intro w'; go_simp; with_reducible rfl
 rotate_left
 ·
  exact zp_
 refine take_ (i := 1) (N := some 6) (v := ?_) (a' := ?_) #[T_,T_,T_,F_,F_,T_,F_,T_,F_,F_,T_,F_,T_,F_,F_,F_,F_,F_] rfl rfl (take_ofW HT_.out HW_.out (by kernel_rfl)) (fun _ _ _ h => h) (Or.inl ⟨by rfl, ?_⟩) hHeld ?_ ?_
 rotate_left
 ·
  rintro w' ⟨s0, s1, s2, s3, s4, s5, s6, s7⟩
  go_simp
  with_reducible rfl
 rotate_left
 ·
  exact zp_
 refine take_ (i := 3) (N := some 8) (v := ?_) (a' := ?_) #[T_,T_,T_,T_,F_,T_,F_,T_,F_,F_,T_,F_,T_,F_,F_,F_,F_,F_] rfl rfl (take_ofW HT_.out HW_.out (by kernel_rfl)) (fun _ _ _ h => h) (Or.inl ⟨by rfl, ?_⟩) hHeld ?_ ?_
 rotate_left
 ·
  rintro w' ⟨s0, s1, s2, s3, s4, s5, s6, s7⟩
  go_simp
  with_reducible rfl
 rotate_left
 ·
  exact zp_
 refine take_ (i := 6) (N := some 11) (v := ?_) (a' := ?_) #[T_,T_,T_,T_,F_,T_,T_,T_,F_,F_,T_,F_,T_,F_,F_,F_,F_,F_] rfl rfl (take_ofW HT_.out HW_.out (by kernel_rfl)) (fun _ _ _ h => h) (Or.inl ⟨by rfl, ?_⟩) hHeld ?_ ?_
 rotate_left
 ·
  rintro w' ⟨s0, s1, s2, s3, s4, s5, s6, s7⟩
  go_simp
  with_reducible rfl
 rotate_left
 ·
  exact zp_
 refine take_ (i := 8) (N := some 13) (v := ?_) (a' := ?_) #[T_,T_,T_,T_,F_,T_,T_,T_,T_,F_,T_,F_,T_,F_,F_,F_,F_,F_] rfl rfl (take_ofW HT_.out HW_.out (by kernel_rfl)) (fun _ _ _ h => h) (Or.inl ⟨by rfl, ?_⟩) hHeld ?_ ?_
 rotate_left
 ·
  rintro w' ⟨s0, s1, s2, s3, s4, s5, s6, s7⟩
  go_simp
  with_reducible rfl
 rotate_left
 ·
  exact zp_
 refine take_ (i := 11) (N := some 16) (v := ?_) (a' := ?_) #[T_,T_,T_,T_,F_,T_,T_,T_,T_,F_,T_,T_,T_,F_,F_,F_,F_,F_] rfl rfl (take_ofW HT_.out HW_.out (by kernel_rfl)) (fun _ _ _ h => h) (Or.inl ⟨by rfl, ?_⟩) hHeld ?_ ?_
 rotate_left
 ·
  rintro w' ⟨s0, s1, s2, s3, s4, s5, s6, s7⟩
  go_simp
  with_reducible rfl
 rotate_left
 ·
  exact zp_
 refine take_ (i := 13) (N := some 18) (v := ?_) (a' := ?_) #[T_,T_,T_,T_,F_,T_,T_,T_,T_,F_,T_,T_,T_,T_,F_,F_,F_,F_] rfl rfl (take_ofW HT_.out HW_.out (by kernel_rfl)) (fun _ _ _ h => h) (Or.inl ⟨by rfl, ?_⟩) hHeld ?_ ?_
 rotate_left
 ·
  rintro w' ⟨s0, s1, s2, s3, s4, s5, s6, s7⟩
  go_simp
  with_reducible rfl
 rotate_left
 ·
  exact zp_
 refine one_ (i := 4) (N := some 9) #[T_,T_,T_,T_,T_,T_,T_,T_,T_,F_,T_,T_,T_,T_,F_,F_,F_,F_] rfl rfl (one_of HT_.out (by kernel_rfl)) (by decide) (fun K hK => ?_)
 refine goes_ Try.func86 (by kernel_rfl) rfl #[.agg #[.int .u64 a0_0, .int .i64 a0_1], .agg #[.int .u64 a1_0, .int .i64 a1_1]] (by rfl) rfl rfl za_ ?_
 with_reducible refine (ident_Compare.calls a0_0 a0_1 a1_0 a1_1 t203 _ A3.out).mono ?_
 rintro e w10 ⟨rfl, hb⟩
 refine ⟨_, rfl, ?_⟩
 have n0_ := zk_ BK201 hb
 have n1_ := zk_ BK202 hb
 have n2_ := Aside0.mk (below_step zb_ hb)
 clear BK201
 clear BK202
 clear HB
 have BK201 := n0_
 have BK202 := n1_
 have HB := n2_
 clear n0_ n1_ n2_
 (try clear hb)
 (try clear hb2)
 (try clear hk)
 (try clear hi)
 refine hK.out _ _ ⟨(blk_cell BK201.out 0).trans rfl, (blk_cell BK201.out 1).trans rfl, (blk_cell BK201.out 2).trans rfl, (blk_cell BK201.out 3).trans rfl, (blk_cell BK202.out 0).trans rfl, (blk_cell BK202.out 1).trans rfl, (blk_cell BK202.out 2).trans rfl, (blk_cell BK202.out 3).trans rfl⟩ (fun hHeld => ?_)
 clear hK K
 refine norm_ (a' := ?_) ?_ ?_
 rotate_left
 ·
  show Act.put _ (some 9) _ = _
  simp only [Act.put, List.setIfInBounds_toArray, List.set_cons_zero, List.set_cons_succ, i64_w, i32_w]
  rfl
 refine one_ (i := 9) (N := some 14) #[T_,T_,T_,T_,T_,T_,T_,T_,T_,T_,T_,T_,T_,T_,F_,F_,F_,F_] rfl rfl (one_of HT_.out (by kernel_rfl)) (by decide) (fun K hK => ?_)
 refine goes_ Try.func87 (by kernel_rfl) rfl #[.int .u64 a0_2, .int .u64 a1_2] (by rfl) rfl rfl za_ ?_
 with_reducible refine (cmp_Compare_uint64.calls a0_2 a1_2 t204 _ A4.out).mono ?_
 rintro e w' ⟨rfl, ⟨nd, rfl⟩⟩
 refine ⟨_, rfl, ?_⟩
 refine hK.out _ _ ⟨(blk_cell BK201.out 0).trans rfl, (blk_cell BK201.out 1).trans rfl, (blk_cell BK201.out 2).trans rfl, (blk_cell BK201.out 3).trans rfl, (blk_cell BK202.out 0).trans rfl, (blk_cell BK202.out 1).trans rfl, (blk_cell BK202.out 2).trans rfl, (blk_cell BK202.out 3).trans rfl⟩ (fun hHeld => ?_)
 clear hK K
 refine norm_ (a' := ?_) ?_ ?_
 rotate_left
 ·
  show Act.put _ (some 14) _ = _
  simp only [Act.put, List.setIfInBounds_toArray, List.set_cons_zero, List.set_cons_succ, i64_w, i32_w]
  rfl
 refine one_ (i := 14) (N := some 19) #[T_,T_,T_,T_,T_,T_,T_,T_,T_,T_,T_,T_,T_,T_,T_,F_,F_,F_] rfl rfl (one_of HT_.out (by kernel_rfl)) (by decide) (fun K hK => ?_)
 refine goes_ Try.func88 (by kernel_rfl) rfl #[.int .i64 a0_3, .int .i64 a1_3] (by rfl) rfl rfl za_ ?_
 with_reducible refine (cmp_Compare_int.calls a0_3 a1_3 t205 _ A5.out).mono ?_
 rintro e w' ⟨rfl, ⟨nd, rfl⟩⟩
 refine ⟨_, rfl, ?_⟩
 refine hK.out _ _ ⟨(blk_cell BK201.out 0).trans rfl, (blk_cell BK201.out 1).trans rfl, (blk_cell BK201.out 2).trans rfl, (blk_cell BK201.out 3).trans rfl, (blk_cell BK202.out 0).trans rfl, (blk_cell BK202.out 1).trans rfl, (blk_cell BK202.out 2).trans rfl, (blk_cell BK202.out 3).trans rfl⟩ (fun hHeld => ?_)
 clear hK K
 refine norm_ (a' := ?_) ?_ ?_
 rotate_left
 ·
  show Act.put _ (some 19) _ = _
  simp only [Act.put, List.setIfInBounds_toArray, List.set_cons_zero, List.set_cons_succ, i64_w, i32_w]
  rfl
 refine one_ (i := 15) (N := some 20) #[T_,T_,T_,T_,T_,T_,T_,T_,T_,T_,T_,T_,T_,T_,T_,T_,F_,F_] rfl rfl (one_of HT_.out (by kernel_rfl)) (by decide) (fun K hK => ?_)
 refine Kd.R_lit_step (Kd.int .i64) _ 3 ?hg (N := 20) ?hd (xs := ([t203, t204, t205] : List Int)) (inner := [.int .i64 t203, .int .i64 t204, .int .i64 t205]) (ok := fun _ => True) (okp := fun _ => True) ?hr ?hp (fun _ hk => hk) trivial (Below.refl _ _) (Nat.le_refl _) (by simp) ?_; (case hd => rfl); (case hg => rfl); (case hr => first | (go_simp; done) | (go_simp; rfl)); (case hp => exact (Reps.one (show Kd.M (Kd.int .i64) _ _ _ t203 [.int .i64 t203] from rfl) (Reps.one (show Kd.M (Kd.int .i64) _ _ _ t204 [.int .i64 t204] from rfl) (Reps.one (show Kd.M (Kd.int .i64) _ _ _ t205 [.int .i64 t205] from rfl) (Reps.none _ _)))))
 intro v207 w11 ho12 hb hg_ hnew_
 clear hg_ hnew_
 (first | rw [← Ny206.out] at ho12 | (simp only [Int.reduceToNat] at ho12; rw [← Ny206.out] at ho12))
 have n0_ := Aside0.mk (Kd.R_lower ho12 (below_size zb_))
 have n1_ := zk_ BK201 hb
 have n2_ := zk_ BK202 hb
 have n3_ := Aside0.mk (below_step zb_ hb)
 clear BK201
 clear BK202
 clear HB
 have HO208 := n0_
 have BK201 := n1_
 have BK202 := n2_
 have HB := n3_
 clear n0_ n1_ n2_ n3_
 clear hb ho12
 obtain ⟨Ao13, co13, eo13⟩ := Kd.R_slice HO208.out
 (first | subst eo13 | (injection eo13 with f1_ f2_ f3_; have f4_ := f1_.symm; have f5_ := f3_.symm; clear f1_ f2_ f3_; subst f4_; subst f5_))
 refine hK.out _ _ ⟨(blk_cell BK201.out 0).trans rfl, (blk_cell BK201.out 1).trans rfl, (blk_cell BK201.out 2).trans rfl, (blk_cell BK201.out 3).trans rfl, (blk_cell BK202.out 0).trans rfl, (blk_cell BK202.out 1).trans rfl, (blk_cell BK202.out 2).trans rfl, (blk_cell BK202.out 3).trans rfl⟩ (fun hHeld => ?_)
 clear hK K
 refine norm_ (a' := ?_) ?_ ?_
 rotate_left
 ·
  show Act.put _ (some 20) _ = _
  simp only [Act.put, List.setIfInBounds_toArray, List.set_cons_zero, List.set_cons_succ, i64_w, i32_w]
  rfl
 refine one_ (i := 16) (N := some 21) #[T_,T_,T_,T_,T_,T_,T_,T_,T_,T_,T_,T_,T_,T_,T_,T_,T_,F_] rfl rfl (one_of HT_.out (by kernel_rfl)) (by decide) (fun K hK => ?_)
 refine goes_ Try.func85 (by kernel_rfl) rfl #[.slice Ao13 y206.length co13] (by rfl) rfl rfl za_ ?_
 with_reducible refine (cmp_Or_int.calls k _ _ y206 t209 _ ?side1 ?side2 A6.out).mono ?_
 (case side1 => exact zd_ (Kd.R_reads' HO208.out).2.2)
 (case side2 => exact (Kd.R_reads' HO208.out).2.1)
 rintro e w' ⟨rfl, ⟨nd, rfl⟩⟩
 refine ⟨_, rfl, ?_⟩
 refine hK.out _ _ ⟨(blk_cell BK201.out 0).trans rfl, (blk_cell BK201.out 1).trans rfl, (blk_cell BK201.out 2).trans rfl, (blk_cell BK201.out 3).trans rfl, (blk_cell BK202.out 0).trans rfl, (blk_cell BK202.out 1).trans rfl, (blk_cell BK202.out 2).trans rfl, (blk_cell BK202.out 3).trans rfl⟩ (fun hHeld => ?_)
 clear hK K
 refine norm_ (a' := ?_) ?_ ?_
 rotate_left
 ·
  show Act.put _ (some 21) _ = _
  simp only [Act.put, List.setIfInBounds_toArray, List.set_cons_zero, List.set_cons_succ, i64_w, i32_w]
  rfl
 refine pure_ (i := 17) (N := some 4) (v := ?_) (a' := ?_) #[T_,T_,T_,T_,T_,T_,T_,T_,T_,T_,T_,T_,T_,T_,T_,T_,T_,T_] rfl rfl (any_of HT_.out (by kernel_rfl)) (fun _ _ _ h => h) (Or.inl ⟨by rfl, ?_⟩) ?_ ?_
 rotate_left
 ·
  intro w'; go_simp; with_reducible rfl
 rotate_left
 ·
  exact zp_
 refine done_ (done_of HT_.out (by kernel_rfl)) ?_
 (try clear hHeld); (try clear HS0_)
 try go_wp2
 go_ret
 exact ⟨by first | rfl | (simp [errW_none, errW_some] <;> rfl) | (simp [*, errW_none, errW_some] <;> rfl), by repeat (first | (with_reducible first | exact HB.out | apply below_alloc | apply pw_below_drewN | apply below_drew1 | refine below_set ?_ GE201.out | refine below_set ?_ GE202.out) | exact HB.out)⟩
end Go.Proofs.Ytioooiflpabngaa.PAll
end
section
namespace Go.Proofs.Ytioooiflpabngaa.PAll
open Go.RowKit Go.Proofs.YtioooiflpabngaaW.PrintWords
set_option linter.unusedVariables false
set_option linter.unusedSimpArgs false
theorem compare64 (a b : Int) : cmp_Compare_uint64.f a b = some (cmpI a b) := by
  unfold cmp_Compare_uint64.f cmp_isNaN_uint64.f cmpI
  simp
  split <;> (try split) <;> simp_all
theorem compare_int (a b : Int) : cmp_Compare_int.f a b = some (cmpI a b) := by
  unfold cmp_Compare_int.f cmp_isNaN_int.f cmpI
  simp
  split <;> (try split) <;> simp_all
theorem ident_Compare_eq (a b : S25) : ident_Compare.f a.f0 a.f1 b.f0 b.f1 = some (cmpV a b) := by
  unfold ident_Compare.f cmpV
  rw [compare64, compare_int]
  simp only [Option.bind_some]
  by_cases h : cmpI a.f0 b.f0 = 0 <;> simp [h]
theorem or_three (a b c : Int) : cmp_Or_int.f 4 [a, b, c] = some (if a = 0 then (if b = 0 then c else b) else a) := by
  by_cases ha : a = 0 <;> by_cases hb : b = 0 <;> by_cases hc : c = 0 <;> simp [cmp_Or_int.f, cmp_Or_int.l0, YtioooiflpabngaaW.PrintWords.rd, ha, hb, hc, wrap64]
theorem label_Compare_eq (a b : S27) : label_Compare.f 4 a.f0.f0 a.f0.f1 a.f1 a.f2 b.f0.f0 b.f0.f1 b.f1 b.f2 = some (cmpL a b) := by
  unfold label_Compare.f
  rw [ident_Compare_eq, compare64, compare_int]
  simp only [Option.bind_some]
  rw [or_three]
  rfl
end Go.Proofs.Ytioooiflpabngaa.PAll
end
section
namespace Go.Proofs.Ytioooiflpabngaa.PAll
open Go.RowKit Go.Proofs.YtioooiflpabngaaW.PrintWords
set_option linter.unusedVariables false
set_option linter.unusedSimpArgs false
theorem Ev.of_mono {α : Type} {g : Nat → Option α} {r : α} (hm : ∀ k, LeO (g k) (g (k + 1))) {K : Nat} (h : g K = some r) : Ev g r := by
  refine ⟨K, fun k hk => ?_⟩
  obtain ⟨d, rfl⟩ : ∃ d, k = K + d := ⟨k - K, by omega⟩
  clear hk
  induction d with
  | zero => exact h
  | succ d ih => exact hm _ _ ih
theorem compare_ev (a b : S27) : Ev (fun k => label_Compare.f k a.f0.f0 a.f0.f1 a.f1 a.f2 b.f0.f0 b.f0.f1 b.f1 b.f2) (cmpL a b) :=
  Ev.of_mono (fun k => label_Compare.mono _ _ _ _ _ _ _ _ k) (label_Compare_eq a b)
end Go.Proofs.Ytioooiflpabngaa.PAll
end
section
namespace Go.Proofs.Ytioooiflpabngaa.PAll
open Go.RowKit Go.Proofs.YtioooiflpabngaaW.PrintWords Go.Proofs.YtioooiflpabngaaW.PrintLast Go.Proofs.YtioooiflpabngaaW.PrintMore
attribute [local go_sem] max2_int min2_int max_two min_two max_three min_three max_four min_four   -- for this text's walks alone
set_option linter.unusedVariables false
set_option linter.unusedSimpArgs false
attribute [local go_sem high] eqA27
def folkmootref05_Same.l0 : Nat → List (S27) → List (S27) → Int → Option (Bool)
 | 0, _, _, _ => none
 | k + 1, x0, x1, x5 => if x5 < (x0.length : Int) then (if 0 ≤ x5 then (if x5 < (x1.length : Int) then (if ((!(((rd_T27 x0 x5).f0.f0) == ((rd_T27 x1 x5).f0.f0)) || (!(((rd_T27 x0 x5).f0.f1) == ((rd_T27 x1 x5).f0.f1)))) || (!(((rd_T27 x0 x5).f1) == ((rd_T27 x1 x5).f1)) || (!(((rd_T27 x0 x5).f2) == ((rd_T27 x1 x5).f2))))) = true then (some false) else (folkmootref05_Same.l0 k x0 x1 (wrap64 (x5 + 1)))) else (none)) else (none)) else (some true)
def folkmootref05_Same.f (k : Nat) (l0 : List (S27)) (l1 : List (S27)) : Option (Bool) := if (l0.length : Int) = (l1.length : Int) then (folkmootref05_Same.l0 k l0 l1 0) else (some false)
theorem folkmootref05_Same.mono_l : ∀ k, (∀ y0 y1 y2, LeO (folkmootref05_Same.l0 k y0 y1 y2) (folkmootref05_Same.l0 (k + 1) y0 y1 y2))
 | 0 => fun _ _ _ r h => by simp [folkmootref05_Same.l0] at h
 | k + 1 => by
  have ih0 := folkmootref05_Same.mono_l k
  ·
   intro y0 y1 y2
   unfold folkmootref05_Same.l0
   repeat' first
   | (with_reducible exact ih0 _ _ _)
   | (with_reducible exact LeO.refl _)
   | (with_reducible exact LeO.none _)
   | (with_reducible refine LeO.ite ?_ ?_)
   | (with_reducible refine LeO.bind ?_ (fun _ => ?_))
   | exact ih0 _ _ _
   | exact LeO.none _
   | refine LeO.ite ?_ ?_
   | refine LeO.bind ?_ (fun _ => ?_)
theorem folkmootref05_Same.mono : ∀ a0 a1 k, LeO (folkmootref05_Same.f k a0 a1) (folkmootref05_Same.f (k + 1) a0 a1) := by
 intro a0 a1 k
 have ih0 := folkmootref05_Same.mono_l k
 unfold folkmootref05_Same.f
 repeat' first
   | (with_reducible exact ih0 _ _ _)
   | (with_reducible exact LeO.refl _)
   | (with_reducible exact LeO.none _)
   | (with_reducible refine LeO.ite ?_ ?_)
   | (with_reducible refine LeO.bind ?_ (fun _ => ?_))
   | exact ih0 _ _ _
   | exact LeO.none _
   | refine LeO.ite ?_ ?_
   | refine LeO.bind ?_ (fun _ => ?_)
set_option maxHeartbeats 8000000 in
set_option maxRecDepth 100000 in
theorem folkmootref05_Same.calls (k : Nat) (A0 : Option Addr) (c0 : Nat) (l0 : List (S27)) (A1 : Option Addr) (c1 : Nat) (l1 : List (S27)) (r : Bool) (w : World) (hr0 : Kd.C k27 w A0 l0.length l0) (hc0 : l0.length ≤ c0) (hr1 : Kd.C k27 w A1 l1.length l1) (hc1 : l1.length ≤ c1) (h : folkmootref05_Same.f k l0 l1 = some r) :
  Calls Try.prog 30 #[.slice A0 l0.length c0, .slice A1 l1.length c1] w fun e w' => e = .returned (.bool r) ∧ Drawn0 w w' := by
 have hu27 := Try.underlying27
 have HR0 := Aside0.mk hr0
 have HC0 := Aside0.mk hc0
 clear hr0 hc0
 have HR1 := Aside0.mk hr1
 have HC1 := Aside0.mk hc1
 clear hr1 hc1
 have H : (if (l0.length : Int) = (l1.length : Int) then (folkmootref05_Same.l0 k l0 l1 0) else (some false)) = some r := h
 clear h
 by_cases c3 : (l0.length : Int) = (l1.length : Int)
 ·
  rw [if_pos c3] at H
  have c3b0 : ((l0.length : Int) == (l1.length : Int)) = true := beq_iff_eq.mpr c3
  have c3b1 : ((l0.length : Int) != (l1.length : Int)) = false := bne_eq_false_iff_eq.mpr c3
  have c3b2 : (l0.length == l1.length) = true := by first | simpa using c3 | (simp at c3 ⊢; omega)
  clear c3
  have H' := Aside0.mk H
  clear H
  go_enter Try.func30, Try.ntmps30
  go_wp2
  repeat (go_quiet (fail); try go_wp2)
  go_loopg [5] k (fun kq v5 w' => ∃ (x5_1 : Int), v5 = .int .i64 x5_1 ∧ Aside0 (folkmootref05_Same.l0 kq l0 l1 x5_1 = some r) ∧ Aside0 (kq ≤ k) ∧ Drawn0 w w')
  case atStart => exact ⟨(0), (by first | rfl | (simp; done) | (simp [*]; done)), H', ⟨Nat.le_refl _⟩, by repeat (first | exact Drawn0.refl _ | apply Drawn0.step)⟩
  case round =>
   clear H'
   try clear c1
   try clear p2
   try clear c3
   try clear c3b0
   try clear c3b1
   try clear c3b2
   obtain ⟨x5_1, rfl, HA, HK1, ⟨m1, rfl⟩⟩ := hrel
   cases gk with
   | zero => exact absurd HA.out (by simp [folkmootref05_Same.l0])
   | succ k1 =>
    have H := HA.out
    clear HA
    simp only [folkmootref05_Same.l0] at H
    by_cases c4 : x5_1 < (l0.length : Int)
    ·
     rw [if_pos c4] at H
     have c4b0 : decide (x5_1 < (l0.length : Int)) = true := decide_eq_true c4
     clear c4
     by_cases c5 : 0 ≤ x5_1
     ·
      rw [if_pos c5] at H
      have c5b0 : decide (0 ≤ x5_1) = true := decide_eq_true c5
      clear c5
      by_cases c6 : x5_1 < (l1.length : Int)
      ·
       rw [if_pos c6] at H
       have c6b0 : decide (x5_1 < (l1.length : Int)) = true := decide_eq_true c6
       clear c6
       by_cases c7 : ((!(((rd_T27 l0 x5_1).f0.f0) == ((rd_T27 l1 x5_1).f0.f0)) || (!(((rd_T27 l0 x5_1).f0.f1) == ((rd_T27 l1 x5_1).f0.f1)))) || (!(((rd_T27 l0 x5_1).f1) == ((rd_T27 l1 x5_1).f1)) || (!(((rd_T27 l0 x5_1).f2) == ((rd_T27 l1 x5_1).f2))))) = true
       ·
        rw [if_pos c7] at H
        have c7b0 : ((!(((rd_T27 l0 x5_1).f0.f0) == ((rd_T27 l1 x5_1).f0.f0)) || (!(((rd_T27 l0 x5_1).f0.f1) == ((rd_T27 l1 x5_1).f0.f1)))) || (!(((rd_T27 l0 x5_1).f1) == ((rd_T27 l1 x5_1).f1)) || (!(((rd_T27 l0 x5_1).f2) == ((rd_T27 l1 x5_1).f2))))) = true := c7
        clear c7
        obtain rfl := Option.some.inj H
        have p286 : 0 ≤ (x5_1 : Int) := of_decide_eq_true zs_
        have q286 : x5_1 < (l0.length : Int) := of_decide_eq_true zs_
        obtain ⟨ad286, e286, hx286_0, hx286_1, hx286_2, hx286_3⟩ := at_T27 HR0.out x5_1 p286 q286
        cases e286
        replace p286 := eq_true p286
        replace q286 := eq_true q286
        have p287 : 0 ≤ (x5_1 : Int) := of_decide_eq_true zs_
        have q287 : x5_1 < (l1.length : Int) := of_decide_eq_true zs_
        obtain ⟨ad287, e287, hx287_0, hx287_1, hx287_2, hx287_3⟩ := at_T27 HR1.out x5_1 p287 q287
        cases e287
        replace p287 := eq_true p287
        replace q287 := eq_true q287
        go_wp2
        repeat (go_quiet (fail); try go_wp2)
        go_ret
        exact ⟨by first | rfl | (simp; done) | (simp [*]; done), by repeat (first | exact Drawn0.refl _ | apply Drawn0.step)⟩
       ·
        rw [if_neg c7] at H
        have c7b0 : ((!(((rd_T27 l0 x5_1).f0.f0) == ((rd_T27 l1 x5_1).f0.f0)) || (!(((rd_T27 l0 x5_1).f0.f1) == ((rd_T27 l1 x5_1).f0.f1)))) || (!(((rd_T27 l0 x5_1).f1) == ((rd_T27 l1 x5_1).f1)) || (!(((rd_T27 l0 x5_1).f2) == ((rd_T27 l1 x5_1).f2))))) = false := by simpa using c7
        clear c7
        have H' := Aside0.mk H
        clear H
        have p286 : 0 ≤ (x5_1 : Int) := of_decide_eq_true zs_
        have q286 : x5_1 < (l0.length : Int) := of_decide_eq_true zs_
        obtain ⟨ad286, e286, hx286_0, hx286_1, hx286_2, hx286_3⟩ := at_T27 HR0.out x5_1 p286 q286
        cases e286
        replace p286 := eq_true p286
        replace q286 := eq_true q286
        have p287 : 0 ≤ (x5_1 : Int) := of_decide_eq_true zs_
        have q287 : x5_1 < (l1.length : Int) := of_decide_eq_true zs_
        obtain ⟨ad287, e287, hx287_0, hx287_1, hx287_2, hx287_3⟩ := at_T27 HR1.out x5_1 p287 q287
        cases e287
        replace p287 := eq_true p287
        replace q287 := eq_true q287
        go_wp2
        repeat (go_quiet (fail); try go_wp2)
        go_roundg k1
        case measure => have := HK1.out; omega
        case rel => exact ⟨(wrap64 (x5_1 + 1)), (by first | rfl | (simp; done) | (simp [*]; done)), H', ⟨by have := HK1.out; omega⟩, by repeat (first | exact Drawn0.refl _ | apply Drawn0.step)⟩
      ·
       rw [if_neg c6] at H
       exact absurd H (by simp)
     ·
      rw [if_neg c5] at H
      exact absurd H (by simp)
    ·
     rw [if_neg c4] at H
     have c4b0 : decide (x5_1 < (l0.length : Int)) = false := decide_eq_false c4
     clear c4
     obtain rfl := Option.some.inj H
     go_wp2
     repeat (go_quiet (fail); try go_wp2)
     go_ret
     exact ⟨by first | rfl | (simp; done) | (simp [*]; done), by repeat (first | exact Drawn0.refl _ | apply Drawn0.step)⟩
 ·
  rw [if_neg c3] at H
  have c3b0 : ((l0.length : Int) == (l1.length : Int)) = false := beq_eq_false_iff_ne.mpr c3
  have c3b1 : ((l0.length : Int) != (l1.length : Int)) = true := bne_iff_ne.mpr c3
  have c3b2 : (l0.length == l1.length) = false := by first | simpa using c3 | (simp at c3 ⊢; omega)
  obtain rfl := Option.some.inj H
  go_enter Try.func30, Try.ntmps30
  go_wp2
  repeat (go_quiet (fail); try go_wp2)
  go_ret
  exact ⟨by first | rfl | (simp; done) | (simp [*]; done), by repeat (first | exact Drawn0.refl _ | apply Drawn0.step)⟩
end Go.Proofs.Ytioooiflpabngaa.PAll
end
section
namespace Go.Proofs.Ytioooiflpabngaa.PAll
open Go.RowKit Go.Proofs.YtioooiflpabngaaW.PrintWords
set_option linter.unusedVariables false
set_option linter.unusedSimpArgs false
theorem sameL_loop (l : List S27) (hl : l.length < 9223372036854775807) : ∀ (d i : Nat), d = l.length - i → i ≤ l.length → Ev (fun k => folkmootref05_Same.l0 k l l (i : Int)) true := by
  intro d
  induction d with
  | zero =>
    intro i hd hi
    refine Ev.step (b := fun _ => some true) (fun k => ?_) (Ev.const fun _ => rfl)
    rw [folkmootref05_Same.l0, if_neg (by omega)]
  | succ d ih =>
    intro i hd hi
    refine Ev.step (b := fun k => folkmootref05_Same.l0 k l l ((i + 1 : Nat) : Int)) (fun k => ?_) (ih (i + 1) (by omega) (by omega))
    rw [folkmootref05_Same.l0, if_pos (by omega), if_pos (by omega), if_pos (by omega), if_neg (by simp), wrap_nat (by omega)]
theorem sameL_ev (l : List S27) (hl : l.length < 9223372036854775807) : Ev (fun k => folkmootref05_Same.f k l l) true := by
  have := sameL_loop l hl l.length 0 (by omega) (by omega)
  simpa [folkmootref05_Same.f] using this
theorem behind_eq {l m : List S27} (h : l.length + m.length < 4398046511104) : label_Behind.f l m = some (behindL l m) := by
  unfold label_Behind.f
  rw [if_pos h]
end Go.Proofs.Ytioooiflpabngaa.PAll
end
section
namespace Go.Proofs.Ytioooiflpabngaa.PAll
open Go.RowKit Go.Proofs.YtioooiflpabngaaW.PrintWords Go.Proofs.YtioooiflpabngaaW.PrintLast Go.Proofs.YtioooiflpabngaaW.PrintMore
attribute [local go_sem] max2_int min2_int max_two min_two max_three min_three max_four min_four   -- for this text's walks alone
set_option linter.unusedVariables false
set_option linter.unusedSimpArgs false
def ident_Above.f (a0_0 : Int) (a0_1 : Int) (a1_0 : Int) (a1_1 : Int) : Option (Bool) := (ident_Compare.f a0_0 a0_1 a1_0 a1_1).bind fun t737 => (some (decide (t737 > 0)))
set_option maxHeartbeats 8000000 in
set_option maxRecDepth 100000 in
theorem ident_Above.calls (a0_0 : Int) (a0_1 : Int) (a1_0 : Int) (a1_1 : Int) (r : Bool) (w : World) (h : ident_Above.f a0_0 a0_1 a1_0 a1_1 = some r) :
  Calls Try.prog 110 #[.agg #[.int .u64 a0_0, .int .i64 a0_1], .agg #[.int .u64 a1_0, .int .i64 a1_1]] w fun e w' => e = .returned (.bool r) ∧ Below w.heap.size w w' := by
 have hu25 := Try.underlying25
 have HB := Aside0.mk (Below.refl w.heap.size w)
 have H : ((ident_Compare.f a0_0 a0_1 a1_0 a1_1).bind fun t737 => (some (decide (t737 > 0)))) = some r := h
 clear h
 replace H := Option.bind_eq_some_iff.mp H
 obtain ⟨t737, A30, H⟩ := H
 replace H : (some (decide (t737 > 0))) = some r := H
 have A3 := Aside0.mk A30
 clear A30
 obtain rfl := Option.some.inj H
 go_enter Try.func110, Try.ntmps110
 go_wp2_with (first | ((with_reducible refine gate_dst (N := 2) rfl ?_); refine box_event ?hg (N := 2) ?hd (cs := #[.int .u64 a0_0, .int .i64 a0_1]) (t := 25) ?hr ?_; (case hd => rfl); (case hg => rfl); (case hr => first | (go_simp; done) | (go_simp; rfl)); intro gb735 hg w4 hbox hb; have n0_ := Aside0.mk (below_step zb_ hb); have n1_ := Aside0.mk (hbox); have n2_ := Aside0.mk ((by rw [hg]; exact (below_size zb_) : w.heap.size ≤ gb735)); have n3_ := Aside0.mk ((by rw [hg]; exact (below_size zb_) : w.heap.size ≤ gb735)); clear HB; have HB := n0_; have BK735 := n1_; have GW735 := n2_; have GE735 := n3_; clear n0_ n1_ n2_ n3_; clear hb hbox hg) | ((with_reducible refine gate_dst (N := 3) rfl ?_); refine box_event ?hg (N := 3) ?hd (cs := #[.int .u64 a1_0, .int .i64 a1_1]) (t := 25) ?hr ?_; (case hd => rfl); (case hg => rfl); (case hr => first | (go_simp; done) | (go_simp; rfl)); intro gb736 hg w5 hbox hb; have n0_ := zk_ BK735 hb; have n1_ := Aside0.mk (below_step zb_ hb); have n2_ := Aside0.mk (hbox); have n3_ := Aside0.mk ((by rw [hg]; exact (below_size zb_) : w.heap.size ≤ gb736)); have n4_ := Aside0.mk ((by rw [hg]; exact (below_size zb_) : w.heap.size ≤ gb736)); have n5_ := Aside0.mk ((by rw [hg]; exact Nat.ne_of_lt (blk_lt (g := gb735) (o := .cells #[.int .u64 a0_0, .int .i64 a0_1] 25 (0, 0)) (by (with_reducible repeat (first | refine blk_drewN ?_ _ | refine blk_drew ?_ | refine blk_alloc ?_ _)); exact BK735.out)) : gb735 ≠ gb736)); have n6_ := Aside0.mk ((by rw [hg]; exact Nat.ne_of_gt (blk_lt (g := gb735) (o := .cells #[.int .u64 a0_0, .int .i64 a0_1] 25 (0, 0)) (by (with_reducible repeat (first | refine blk_drewN ?_ _ | refine blk_drew ?_ | refine blk_alloc ?_ _)); exact BK735.out)) : gb736 ≠ gb735)); clear BK735; clear HB; have BK735 := n0_; have HB := n1_; have BK736 := n2_; have GW736 := n3_; have GE736 := n4_; have NB735_736 := n5_; have NB736_735 := n6_; clear n0_ n1_ n2_ n3_ n4_ n5_ n6_; clear hb hbox hg; have hnb6 := NB735_736.out; have hnc6 := NB736_735.out; have hcz7_0 : w5.cell? ⟨gb735, 0, none⟩ = some (.int .u64 a0_0) := (blk_cell BK735.out 0).trans rfl; have hcz7_1 : w5.cell? ⟨gb735, 1, none⟩ = some (.int .i64 a0_1) := (blk_cell BK735.out 1).trans rfl; have hfz7_0 := blk_frozen BK735.out 0; have hfz7_1 := blk_frozen BK735.out 1; have hcz8_0 : w5.cell? ⟨gb736, 0, none⟩ = some (.int .u64 a1_0) := (blk_cell BK736.out 0).trans rfl; have hcz8_1 : w5.cell? ⟨gb736, 1, none⟩ = some (.int .i64 a1_1) := (blk_cell BK736.out 1).trans rfl; have hfz8_0 := blk_frozen BK736.out 0; have hfz8_1 := blk_frozen BK736.out 1) | ((with_reducible refine gate_callee (f := 86) rfl ?_); refine goesL_ (some 7) rfl rfl Try.func86 (by kernel_rfl) rfl #[.agg #[.int .u64 a0_0, .int .i64 a0_1], .agg #[.int .u64 a1_0, .int .i64 a1_1]] rfl za_ ?_; (with_reducible refine (ident_Compare.calls a0_0 a0_1 a1_0 a1_1 t737 _ A3.out).mono ?_); rintro e w9 ⟨rfl, hb⟩; refine ⟨_, rfl, ?_⟩; have n0_ := zk_ BK735 hb; have n1_ := zk_ BK736 hb; have n2_ := Aside0.mk (below_step zb_ hb); clear BK735; clear BK736; clear HB; have BK735 := n0_; have BK736 := n1_; have HB := n2_; clear n0_ n1_ n2_; (try clear hb); (try clear hb2); (try clear hk); (try clear hi)))
 go_ret
 exact ⟨by first | rfl | (simp [errW_none, errW_some] <;> rfl) | (simp [*, errW_none, errW_some] <;> rfl), by repeat (first | (with_reducible first | exact HB.out | apply below_alloc | apply pw_below_drewN | apply below_drew1 | refine below_set ?_ GE735.out | refine below_set ?_ GE736.out) | exact HB.out)⟩
end Go.Proofs.Ytioooiflpabngaa.PAll
end
section
namespace Go.Proofs.Ytioooiflpabngaa.PAll
open Go.RowKit Go.Proofs.YtioooiflpabngaaW.PrintWords Go.Proofs.YtioooiflpabngaaW.PrintLast Go.Proofs.YtioooiflpabngaaW.PrintMore
attribute [local go_sem] max2_int min2_int max_two min_two max_three min_three max_four min_four   -- for this text's walks alone
set_option linter.unusedVariables false
set_option linter.unusedSimpArgs false
def exchange_High.l0 : Nat → List (S87) → Int → Int → Int → Int → Option (Int × Int)
 | 0, _, _, _, _, _ => none
 | k + 1, x6, x7, x8, x740000, x740001 => if x8 < x7 then (if 0 ≤ x8 then (if x8 < (x6.length : Int) then ((ident_Above.f ((rd_T87 x6 x8).f1.f3.f0) ((rd_T87 x6 x8).f1.f3.f1) x740000 x740001).bind fun t742 => (if t742 = true then (exchange_High.l0 k x6 x7 (wrap64 (x8 + 1)) ((rd_T87 x6 x8).f1.f3.f0) ((rd_T87 x6 x8).f1.f3.f1)) else (exchange_High.l0 k x6 x7 (wrap64 (x8 + 1)) x740000 x740001))) else (none)) else (none)) else (some (x740000, x740001))
def exchange_High.f (k : Nat) (l0 : List (S87)) : Option (Int × Int) := exchange_High.l0 k l0 (l0.length : Int) 0 0 0
theorem exchange_High.mono_l : ∀ k, (∀ y0 y1 y2 y3 y4, LeO (exchange_High.l0 k y0 y1 y2 y3 y4) (exchange_High.l0 (k + 1) y0 y1 y2 y3 y4))
 | 0 => fun _ _ _ _ _ r h => by simp [exchange_High.l0] at h
 | k + 1 => by
  have ih0 := exchange_High.mono_l k
  ·
   intro y0 y1 y2 y3 y4
   unfold exchange_High.l0
   repeat' first
   | (with_reducible exact ih0 _ _ _ _ _)
   | (with_reducible exact LeO.refl _)
   | (with_reducible exact LeO.none _)
   | (with_reducible refine LeO.ite ?_ ?_)
   | (with_reducible refine LeO.bind ?_ (fun _ => ?_))
   | exact ih0 _ _ _ _ _
   | exact LeO.none _
   | refine LeO.ite ?_ ?_
   | refine LeO.bind ?_ (fun _ => ?_)
theorem exchange_High.mono : ∀ a0 k, LeO (exchange_High.f k a0) (exchange_High.f (k + 1) a0) := by
 intro a0 k
 have ih0 := exchange_High.mono_l k
 unfold exchange_High.f
 repeat' first
   | (with_reducible exact ih0 _ _ _ _ _)
   | (with_reducible exact LeO.refl _)
   | (with_reducible exact LeO.none _)
   | (with_reducible refine LeO.ite ?_ ?_)
   | (with_reducible refine LeO.bind ?_ (fun _ => ?_))
   | exact ih0 _ _ _ _ _
   | exact LeO.none _
   | refine LeO.ite ?_ ?_
   | refine LeO.bind ?_ (fun _ => ?_)
set_option maxHeartbeats 8000000 in
set_option maxRecDepth 100000 in
theorem exchange_High.calls (k : Nat) (A0 : Option Addr) (c0 : Nat) (l0 : List (S87)) (r1 : Int) (r2 : Int) (w : World) (hr0 : Kd.C k87 w A0 l0.length l0) (hc0 : l0.length ≤ c0) (h : exchange_High.f k l0 = some (r1, r2)) :
  Calls Try.prog 59 #[.slice A0 l0.length c0] w fun e w' => e = .returned (.agg #[.int .u64 r1, .int .i64 r2]) ∧ Below w.heap.size w w' := by
 have hu25 := Try.underlying25
 have hu87 := Try.underlying87
 have HR0 := Aside0.mk hr0
 have HC0 := Aside0.mk hc0
 clear hr0 hc0
 have HB := Aside0.mk (Below.refl w.heap.size w)
 have H : (exchange_High.l0 k l0 (l0.length : Int) 0 0 0) = some (r1, r2) := h
 clear h
 have H' := Aside0.mk H
 clear H
 go_enter Try.func59, Try.ntmps59
 go_wp2_with (first | ((with_reducible refine gate_dst (N := 2) rfl ?_); refine box_event ?hg (N := 2) ?hd (cs := #[.int .u64 0, .int .i64 0]) (t := 25) ?hr ?_; (case hd => rfl); (case hg => rfl); (case hr => first | (go_simp; done) | (go_simp; rfl)); intro gb738 hg w2 hbox hb; have n0_ := Aside0.mk (below_step zb_ hb); have n1_ := Aside0.mk (hbox); have n2_ := Aside0.mk ((by rw [hg]; exact (below_size zb_) : w.heap.size ≤ gb738)); have n3_ := Aside0.mk ((by rw [hg]; exact (below_size zb_) : w.heap.size ≤ gb738)); clear HB; have HB := n0_; have BK738 := n1_; have GW738 := n2_; have GE738 := n3_; clear n0_ n1_ n2_ n3_; clear hb hbox hg) | ((with_reducible refine gate_dst (N := 3) rfl ?_); refine box_event ?hg (N := 3) ?hd (cs := #[.int .u64 0, .int .i64 0]) (t := 25) ?hr ?_; (case hd => rfl); (case hg => rfl); (case hr => first | (go_simp; done) | (go_simp; rfl)); intro gb739 hg w3 hbox hb; have n0_ := zk_ BK738 hb; have n1_ := Aside0.mk (below_step zb_ hb); have n2_ := Aside0.mk (hbox); have n3_ := Aside0.mk ((by rw [hg]; exact (below_size zb_) : w.heap.size ≤ gb739)); have n4_ := Aside0.mk ((by rw [hg]; exact (below_size zb_) : w.heap.size ≤ gb739)); have n5_ := Aside0.mk ((by rw [hg]; exact Nat.ne_of_lt (blk_lt (g := gb738) (o := .cells #[.int .u64 0, .int .i64 0] 25 (0, 0)) (by (with_reducible repeat (first | refine blk_drewN ?_ _ | refine blk_drew ?_ | refine blk_alloc ?_ _)); exact BK738.out)) : gb738 ≠ gb739)); have n6_ := Aside0.mk ((by rw [hg]; exact Nat.ne_of_gt (blk_lt (g := gb738) (o := .cells #[.int .u64 0, .int .i64 0] 25 (0, 0)) (by (with_reducible repeat (first | refine blk_drewN ?_ _ | refine blk_drew ?_ | refine blk_alloc ?_ _)); exact BK738.out)) : gb739 ≠ gb738)); clear BK738; clear HB; have BK738 := n0_; have HB := n1_; have BK739 := n2_; have GW739 := n3_; have GE739 := n4_; have NB738_739 := n5_; have NB739_738 := n6_; clear n0_ n1_ n2_ n3_ n4_ n5_ n6_; clear hb hbox hg))
 go_loopg [8] k (fun kq v8 w' => ∃ (x8_1 : Int) (x740000_1 : Int) (x740001_1 : Int), v8 = .int .i64 x8_1 ∧ Aside0 (exchange_High.l0 kq l0 (l0.length : Int) x8_1 x740000_1 x740001_1 = some (r1, r2)) ∧ Aside0 (kq ≤ k) ∧ Aside0 (w'.heap[gb738]? = some (.cells #[.int .u64 0, .int .i64 0] 25 (0, 0))) ∧ Aside0 (w'.heap[gb739]? = some (.cells #[.int .u64 x740000_1, .int .i64 x740001_1] 25 (0, 0))) ∧ Aside0 (Below w.heap.size w w'))
 case atStart => exact ⟨(0), (0), (0), (by first | rfl | (simp; done) | (simp [*]; done)), H', ⟨Nat.le_refl _⟩, ⟨by (with_reducible repeat (first | refine blk_drewN ?_ _ | refine blk_drew ?_ | refine blk_alloc ?_ _)); exact BK738.out⟩, ⟨by (with_reducible repeat (first | refine blk_drewN ?_ _ | refine blk_drew ?_ | refine blk_alloc ?_ _)); exact BK739.out⟩, ⟨by repeat (first | (with_reducible first | exact HB.out | apply below_alloc | apply pw_below_drewN | apply below_drew1 | refine below_set ?_ GE738.out | refine below_set ?_ GE739.out) | exact HB.out)⟩⟩
 case round =>
  clear H'
  try clear p2
  obtain ⟨x8_1, x740000_1, x740001_1, rfl, HA, HK1, BK738, BK739, HB⟩ := hrel
  cases gk with
  | zero => exact absurd HA.out (by simp [exchange_High.l0])
  | succ k1 =>
   have H := HA.out
   clear HA
   simp only [exchange_High.l0] at H
   by_cases c4 : x8_1 < (l0.length : Int)
   ·
    rw [if_pos c4] at H
    have c4b0 : decide (x8_1 < (l0.length : Int)) = true := decide_eq_true c4
    clear c4
    by_cases c5 : 0 ≤ x8_1
    ·
     rw [if_pos c5] at H
     have c5b0 : decide (0 ≤ x8_1) = true := decide_eq_true c5
     clear c5
     by_cases c6 : x8_1 < (l0.length : Int)
     ·
      rw [if_pos c6] at H
      have c6b0 : decide (x8_1 < (l0.length : Int)) = true := decide_eq_true c6
      clear c6
      replace H := Option.bind_eq_some_iff.mp H
      obtain ⟨t742, A70, H⟩ := H
      replace H : (if t742 = true then (exchange_High.l0 k1 l0 (l0.length : Int) (wrap64 (x8_1 + 1)) ((rd_T87 l0 x8_1).f1.f3.f0) ((rd_T87 l0 x8_1).f1.f3.f1)) else (exchange_High.l0 k1 l0 (l0.length : Int) (wrap64 (x8_1 + 1)) x740000_1 x740001_1)) = some (r1, r2) := H
      have A7 := Aside0.mk A70
      clear A70
      by_cases c8 : t742 = true
      ·
       subst c8
       have H1 : (exchange_High.l0 k1 l0 (l0.length : Int) (wrap64 (x8_1 + 1)) ((rd_T87 l0 x8_1).f1.f3.f0) ((rd_T87 l0 x8_1).f1.f3.f1)) = some (r1, r2) := by rw [if_pos rfl] at H; exact H
       clear H
       have H := H1
       clear H1
       have H' := Aside0.mk H
       clear H
       have p740 : 0 ≤ (x8_1 : Int) := of_decide_eq_true zs_
       have q740 : x8_1 < (l0.length : Int) := of_decide_eq_true zs_
       obtain ⟨ad740, A740_1, c740_1, A740_2, c740_2, e740, hx740_0, hx740_1, hx740_2, hx740_3, hx740_4, hx740_5, hl740_1, hi740_1, hl740_2, hi740_2⟩ := at_T87 HR0.out x8_1 p740 q740
       cases e740
       replace hx740_0 := (HB.out.cell (World.block_lt_of_cell? w _ hx740_0)).trans hx740_0
       replace hx740_1 := (HB.out.cell (World.block_lt_of_cell? w _ hx740_1)).trans hx740_1
       replace hx740_2 := (HB.out.cell (World.block_lt_of_cell? w _ hx740_2)).trans hx740_2
       replace hx740_3 := (HB.out.cell (World.block_lt_of_cell? w _ hx740_3)).trans hx740_3
       replace hx740_4 := (HB.out.cell (World.block_lt_of_cell? w _ hx740_4)).trans hx740_4
       replace hx740_5 := (HB.out.cell (World.block_lt_of_cell? w _ hx740_5)).trans hx740_5
       have HR740_1 := Aside0.mk hi740_1
       have HC740_1 := Aside0.mk hl740_1
       clear hi740_1 hl740_1
       have HR740_2 := Aside0.mk hi740_2
       have HC740_2 := Aside0.mk hl740_2
       clear hi740_2 hl740_2
       replace p740 := eq_true p740
       replace q740 := eq_true q740
       go_wp2_with (first | ((with_reducible refine gate_dst (N := 5) rfl ?_); refine box_event ?hg (N := 5) ?hd (cs := #[.int .i64 0, .slice none 0 0, .slice none 0 0, .int .i64 0, .int .u64 0, .int .i64 0]) (t := 87) ?hr ?_; (case hd => rfl); (case hg => rfl); (case hr => first | (go_simp; done) | (go_simp; rfl)); intro gb741 hg w9 hbox hb; have n0_ := zk_ BK738 hb; have n1_ := zk_ BK739 hb; have n2_ := Aside0.mk (below_step zb_ hb); have n3_ := Aside0.mk (hbox); have n4_ := Aside0.mk ((by rw [hg]; exact (below_size zb_) : w.heap.size ≤ gb741)); have n5_ := Aside0.mk ((by rw [hg]; exact (below_size zb_) : w.heap.size ≤ gb741)); have n6_ := Aside0.mk ((by rw [hg]; exact Nat.ne_of_lt (blk_lt (g := gb738) (o := .cells #[.int .u64 0, .int .i64 0] 25 (0, 0)) (by (with_reducible repeat (first | refine blk_drewN ?_ _ | refine blk_drew ?_ | refine blk_alloc ?_ _)); exact BK738.out)) : gb738 ≠ gb741)); have n7_ := Aside0.mk ((by rw [hg]; exact Nat.ne_of_gt (blk_lt (g := gb738) (o := .cells #[.int .u64 0, .int .i64 0] 25 (0, 0)) (by (with_reducible repeat (first | refine blk_drewN ?_ _ | refine blk_drew ?_ | refine blk_alloc ?_ _)); exact BK738.out)) : gb741 ≠ gb738)); have n8_ := Aside0.mk ((by rw [hg]; exact Nat.ne_of_lt (blk_lt (g := gb739) (o := .cells #[.int .u64 x740000_1, .int .i64 x740001_1] 25 (0, 0)) (by (with_reducible repeat (first | refine blk_drewN ?_ _ | refine blk_drew ?_ | refine blk_alloc ?_ _)); exact BK739.out)) : gb739 ≠ gb741)); have n9_ := Aside0.mk ((by rw [hg]; exact Nat.ne_of_gt (blk_lt (g := gb739) (o := .cells #[.int .u64 x740000_1, .int .i64 x740001_1] 25 (0, 0)) (by (with_reducible repeat (first | refine blk_drewN ?_ _ | refine blk_drew ?_ | refine blk_alloc ?_ _)); exact BK739.out)) : gb741 ≠ gb739)); clear BK738; clear BK739; clear HB; have BK738 := n0_; have BK739 := n1_; have HB := n2_; have BK741 := n3_; have GW741 := n4_; have GE741 := n5_; have NB738_741 := n6_; have NB741_738 := n7_; have NB739_741 := n8_; have NB741_739 := n9_; clear n0_ n1_ n2_ n3_ n4_ n5_ n6_ n7_ n8_ n9_; clear hb hbox hg; have hnb10 := NB741_738.out; have hnc10 := NB738_741.out; have hnb11 := NB741_739.out; have hnc11 := NB739_741.out; have hcz12_0 : w9.cell? ⟨gb741, 0, none⟩ = some (.int .i64 0) := (blk_cell BK741.out 0).trans rfl; have hcz12_1 : w9.cell? ⟨gb741, 1, none⟩ = some (.slice none 0 0) := (blk_cell BK741.out 1).trans rfl; have hcz12_2 : w9.cell? ⟨gb741, 2, none⟩ = some (.slice none 0 0) := (blk_cell BK741.out 2).trans rfl; have hcz12_3 : w9.cell? ⟨gb741, 3, none⟩ = some (.int .i64 0) := (blk_cell BK741.out 3).trans rfl; have hcz12_4 : w9.cell? ⟨gb741, 4, none⟩ = some (.int .u64 0) := (blk_cell BK741.out 4).trans rfl; have hcz12_5 : w9.cell? ⟨gb741, 5, none⟩ = some (.int .i64 0) := (blk_cell BK741.out 5).trans rfl; have hfz12_0 := blk_frozen BK741.out 0; have hfz12_1 := blk_frozen BK741.out 1; have hfz12_2 := blk_frozen BK741.out 2; have hfz12_3 := blk_frozen BK741.out 3; have hfz12_4 := blk_frozen BK741.out 4; have hfz12_5 := blk_frozen BK741.out 5; have hnb13 := NB739_738.out; have hnc13 := NB738_739.out; have hcz14_0 : w9.cell? ⟨gb739, 0, none⟩ = some (.int .u64 x740000_1) := (blk_cell BK739.out 0).trans rfl; have hcz14_1 : w9.cell? ⟨gb739, 1, none⟩ = some (.int .i64 x740001_1) := (blk_cell BK739.out 1).trans rfl; have hfz14_0 := blk_frozen BK739.out 0; have hfz14_1 := blk_frozen BK739.out 1) | ((with_reducible refine gate_callee (f := 110) rfl ?_); refine goesL_ (some 16) rfl rfl Try.func110 (by kernel_rfl) rfl #[.agg #[.int .u64 ((rd_T87 l0 x8_1).f1.f3.f0), .int .i64 ((rd_T87 l0 x8_1).f1.f3.f1)], .agg #[.int .u64 x740000_1, .int .i64 x740001_1]] rfl za_ ?_; (with_reducible refine (ident_Above.calls ((rd_T87 l0 x8_1).f1.f3.f0) ((rd_T87 l0 x8_1).f1.f3.f1) x740000_1 x740001_1 true _ A7.out).mono ?_); rintro e w15 ⟨rfl, hb⟩; refine ⟨_, rfl, ?_⟩; have n0_ := Aside0.mk (blk_below (g := gb738) (o := .cells #[.int .u64 0, .int .i64 0] 25 (0, 0)) (by (with_reducible repeat (first | refine blk_drewN ?_ _ | refine blk_drew ?_ | refine blk_alloc ?_ _)); refine blk_far ?_ NB738_741.out _; (with_reducible repeat (first | refine blk_drewN ?_ _ | refine blk_drew ?_ | refine blk_alloc ?_ _)); refine blk_far ?_ NB738_741.out _; (with_reducible repeat (first | refine blk_drewN ?_ _ | refine blk_drew ?_ | refine blk_alloc ?_ _)); refine blk_far ?_ NB738_741.out _; (with_reducible repeat (first | refine blk_drewN ?_ _ | refine blk_drew ?_ | refine blk_alloc ?_ _)); refine blk_far ?_ NB738_741.out _; (with_reducible repeat (first | refine blk_drewN ?_ _ | refine blk_drew ?_ | refine blk_alloc ?_ _)); refine blk_far ?_ NB738_741.out _; (with_reducible repeat (first | refine blk_drewN ?_ _ | refine blk_drew ?_ | refine blk_alloc ?_ _)); refine blk_far ?_ NB738_741.out _; (with_reducible repeat (first | refine blk_drewN ?_ _ | refine blk_drew ?_ | refine blk_alloc ?_ _)); exact BK738.out) hb); have n1_ := Aside0.mk (blk_below (g := gb739) (o := .cells #[.int .u64 x740000_1, .int .i64 x740001_1] 25 (0, 0)) (by (with_reducible repeat (first | refine blk_drewN ?_ _ | refine blk_drew ?_ | refine blk_alloc ?_ _)); refine blk_far ?_ NB739_741.out _; (with_reducible repeat (first | refine blk_drewN ?_ _ | refine blk_drew ?_ | refine blk_alloc ?_ _)); refine blk_far ?_ NB739_741.out _; (with_reducible repeat (first | refine blk_drewN ?_ _ | refine blk_drew ?_ | refine blk_alloc ?_ _)); refine blk_far ?_ NB739_741.out _; (with_reducible repeat (first | refine blk_drewN ?_ _ | refine blk_drew ?_ | refine blk_alloc ?_ _)); refine blk_far ?_ NB739_741.out _; (with_reducible repeat (first | refine blk_drewN ?_ _ | refine blk_drew ?_ | refine blk_alloc ?_ _)); refine blk_far ?_ NB739_741.out _; (with_reducible repeat (first | refine blk_drewN ?_ _ | refine blk_drew ?_ | refine blk_alloc ?_ _)); refine blk_far ?_ NB739_741.out _; (with_reducible repeat (first | refine blk_drewN ?_ _ | refine blk_drew ?_ | refine blk_alloc ?_ _)); exact BK739.out) hb); have n2_ := Aside0.mk (blk_below (g := gb741) (o := .cells #[.int .i64 ((rd_T87 l0 x8_1).f0), .slice A740_1 ((rd_T87 l0 x8_1).f1.f0).length c740_1, .slice A740_2 ((rd_T87 l0 x8_1).f1.f1).length c740_2, .int .i64 ((rd_T87 l0 x8_1).f1.f2), .int .u64 ((rd_T87 l0 x8_1).f1.f3.f0), .int .i64 ((rd_T87 l0 x8_1).f1.f3.f1)] 87 (0, 0)) (by (with_reducible repeat (first | refine blk_drewN ?_ _ | refine blk_drew ?_ | refine blk_alloc ?_ _)); refine blk_put (cs := #[.int .i64 ((rd_T87 l0 x8_1).f0), .slice A740_1 ((rd_T87 l0 x8_1).f1.f0).length c740_1, .slice A740_2 ((rd_T87 l0 x8_1).f1.f1).length c740_2, .int .i64 ((rd_T87 l0 x8_1).f1.f2), .int .u64 ((rd_T87 l0 x8_1).f1.f3.f0), .int .i64 0]) ?_ 5 _ rfl; (with_reducible repeat (first | refine blk_drewN ?_ _ | refine blk_drew ?_ | refine blk_alloc ?_ _)); refine blk_put (cs := #[.int .i64 ((rd_T87 l0 x8_1).f0), .slice A740_1 ((rd_T87 l0 x8_1).f1.f0).length c740_1, .slice A740_2 ((rd_T87 l0 x8_1).f1.f1).length c740_2, .int .i64 ((rd_T87 l0 x8_1).f1.f2), .int .u64 0, .int .i64 0]) ?_ 4 _ rfl; (with_reducible repeat (first | refine blk_drewN ?_ _ | refine blk_drew ?_ | refine blk_alloc ?_ _)); refine blk_put (cs := #[.int .i64 ((rd_T87 l0 x8_1).f0), .slice A740_1 ((rd_T87 l0 x8_1).f1.f0).length c740_1, .slice A740_2 ((rd_T87 l0 x8_1).f1.f1).length c740_2, .int .i64 0, .int .u64 0, .int .i64 0]) ?_ 3 _ rfl; (with_reducible repeat (first | refine blk_drewN ?_ _ | refine blk_drew ?_ | refine blk_alloc ?_ _)); refine blk_put (cs := #[.int .i64 ((rd_T87 l0 x8_1).f0), .slice A740_1 ((rd_T87 l0 x8_1).f1.f0).length c740_1, .slice none 0 0, .int .i64 0, .int .u64 0, .int .i64 0]) ?_ 2 _ rfl; (with_reducible repeat (first | refine blk_drewN ?_ _ | refine blk_drew ?_ | refine blk_alloc ?_ _)); refine blk_put (cs := #[.int .i64 ((rd_T87 l0 x8_1).f0), .slice none 0 0, .slice none 0 0, .int .i64 0, .int .u64 0, .int .i64 0]) ?_ 1 _ rfl; (with_reducible repeat (first | refine blk_drewN ?_ _ | refine blk_drew ?_ | refine blk_alloc ?_ _)); refine blk_put (cs := #[.int .i64 0, .slice none 0 0, .slice none 0 0, .int .i64 0, .int .u64 0, .int .i64 0]) ?_ 0 _ rfl; (with_reducible repeat (first | refine blk_drewN ?_ _ | refine blk_drew ?_ | refine blk_alloc ?_ _)); exact BK741.out) hb); have n3_ := Aside0.mk (below_step zb_ hb); clear BK738; clear BK739; clear BK741; clear HB; have BK738 := n0_; have BK739 := n1_; have BK741 := n2_; have HB := n3_; clear n0_ n1_ n2_ n3_; (try clear hb); (try clear hb2); (try clear hk); (try clear hi); have hcz16_0 : w15.cell? ⟨gb741, 0, none⟩ = some (.int .i64 ((rd_T87 l0 x8_1).f0)) := (blk_cell BK741.out 0).trans rfl; have hcz16_1 : w15.cell? ⟨gb741, 1, none⟩ = some (.slice A740_1 ((rd_T87 l0 x8_1).f1.f0).length c740_1) := (blk_cell BK741.out 1).trans rfl; have hcz16_2 : w15.cell? ⟨gb741, 2, none⟩ = some (.slice A740_2 ((rd_T87 l0 x8_1).f1.f1).length c740_2) := (blk_cell BK741.out 2).trans rfl; have hcz16_3 : w15.cell? ⟨gb741, 3, none⟩ = some (.int .i64 ((rd_T87 l0 x8_1).f1.f2)) := (blk_cell BK741.out 3).trans rfl; have hcz16_4 : w15.cell? ⟨gb741, 4, none⟩ = some (.int .u64 ((rd_T87 l0 x8_1).f1.f3.f0)) := (blk_cell BK741.out 4).trans rfl; have hcz16_5 : w15.cell? ⟨gb741, 5, none⟩ = some (.int .i64 ((rd_T87 l0 x8_1).f1.f3.f1)) := (blk_cell BK741.out 5).trans rfl; have hfz16_0 := blk_frozen BK741.out 0; have hfz16_1 := blk_frozen BK741.out 1; have hfz16_2 := blk_frozen BK741.out 2; have hfz16_3 := blk_frozen BK741.out 3; have hfz16_4 := blk_frozen BK741.out 4; have hfz16_5 := blk_frozen BK741.out 5; have hcz17_0 : w15.cell? ⟨gb739, 0, none⟩ = some (.int .u64 x740000_1) := (blk_cell BK739.out 0).trans rfl; have hcz17_1 : w15.cell? ⟨gb739, 1, none⟩ = some (.int .i64 x740001_1) := (blk_cell BK739.out 1).trans rfl; have hfz17_0 := blk_frozen BK739.out 0; have hfz17_1 := blk_frozen BK739.out 1))
       go_roundg k1
       case measure => have := HK1.out; omega
       case rel => exact ⟨(wrap64 (x8_1 + 1)), ((rd_T87 l0 x8_1).f1.f3.f0), ((rd_T87 l0 x8_1).f1.f3.f1), (by first | rfl | (simp; done) | (simp [*]; done)), H', ⟨by have := HK1.out; omega⟩, ⟨by (with_reducible repeat (first | refine blk_drewN ?_ _ | refine blk_drew ?_ | refine blk_alloc ?_ _)); refine blk_far ?_ NB738_739.out _; (with_reducible repeat (first | refine blk_drewN ?_ _ | refine blk_drew ?_ | refine blk_alloc ?_ _)); refine blk_far ?_ NB738_739.out _; (with_reducible repeat (first | refine blk_drewN ?_ _ | refine blk_drew ?_ | refine blk_alloc ?_ _)); exact BK738.out⟩, ⟨by (with_reducible repeat (first | refine blk_drewN ?_ _ | refine blk_drew ?_ | refine blk_alloc ?_ _)); refine blk_put (cs := #[.int .u64 ((rd_T87 l0 x8_1).f1.f3.f0), .int .i64 x740001_1]) ?_ 1 _ rfl; (with_reducible repeat (first | refine blk_drewN ?_ _ | refine blk_drew ?_ | refine blk_alloc ?_ _)); refine blk_put (cs := #[.int .u64 x740000_1, .int .i64 x740001_1]) ?_ 0 _ rfl; (with_reducible repeat (first | refine blk_drewN ?_ _ | refine blk_drew ?_ | refine blk_alloc ?_ _)); exact BK739.out⟩, ⟨by repeat (first | (with_reducible first | exact HB.out | apply below_alloc | apply pw_below_drewN | apply below_drew1 | refine below_set ?_ GE738.out | refine below_set ?_ GE739.out | refine below_set ?_ GE741.out) | exact HB.out)⟩⟩
      ·
       replace c8 := Bool.eq_false_iff.mpr c8
       subst c8
       have H1 : (exchange_High.l0 k1 l0 (l0.length : Int) (wrap64 (x8_1 + 1)) x740000_1 x740001_1) = some (r1, r2) := by rw [if_neg (show ¬ (false = true) by decide)] at H; exact H
       clear H
       have H := H1
       clear H1
       have H' := Aside0.mk H
       clear H
       have p740 : 0 ≤ (x8_1 : Int) := of_decide_eq_true zs_
       have q740 : x8_1 < (l0.length : Int) := of_decide_eq_true zs_
       obtain ⟨ad740, A740_1, c740_1, A740_2, c740_2, e740, hx740_0, hx740_1, hx740_2, hx740_3, hx740_4, hx740_5, hl740_1, hi740_1, hl740_2, hi740_2⟩ := at_T87 HR0.out x8_1 p740 q740
       cases e740
       replace hx740_0 := (HB.out.cell (World.block_lt_of_cell? w _ hx740_0)).trans hx740_0
       replace hx740_1 := (HB.out.cell (World.block_lt_of_cell? w _ hx740_1)).trans hx740_1
       replace hx740_2 := (HB.out.cell (World.block_lt_of_cell? w _ hx740_2)).trans hx740_2
       replace hx740_3 := (HB.out.cell (World.block_lt_of_cell? w _ hx740_3)).trans hx740_3
       replace hx740_4 := (HB.out.cell (World.block_lt_of_cell? w _ hx740_4)).trans hx740_4
       replace hx740_5 := (HB.out.cell (World.block_lt_of_cell? w _ hx740_5)).trans hx740_5
       have HR740_1 := Aside0.mk hi740_1
       have HC740_1 := Aside0.mk hl740_1
       clear hi740_1 hl740_1
       have HR740_2 := Aside0.mk hi740_2
       have HC740_2 := Aside0.mk hl740_2
       clear hi740_2 hl740_2
       replace p740 := eq_true p740
       replace q740 := eq_true q740
       go_wp2_with (first | ((with_reducible refine gate_dst (N := 5) rfl ?_); refine box_event ?hg (N := 5) ?hd (cs := #[.int .i64 0, .slice none 0 0, .slice none 0 0, .int .i64 0, .int .u64 0, .int .i64 0]) (t := 87) ?hr ?_; (case hd => rfl); (case hg => rfl); (case hr => first | (go_simp; done) | (go_simp; rfl)); intro gb741 hg w18 hbox hb; have n0_ := zk_ BK738 hb; have n1_ := zk_ BK739 hb; have n2_ := Aside0.mk (below_step zb_ hb); have n3_ := Aside0.mk (hbox); have n4_ := Aside0.mk ((by rw [hg]; exact (below_size zb_) : w.heap.size ≤ gb741)); have n5_ := Aside0.mk ((by rw [hg]; exact (below_size zb_) : w.heap.size ≤ gb741)); have n6_ := Aside0.mk ((by rw [hg]; exact Nat.ne_of_lt (blk_lt (g := gb738) (o := .cells #[.int .u64 0, .int .i64 0] 25 (0, 0)) (by (with_reducible repeat (first | refine blk_drewN ?_ _ | refine blk_drew ?_ | refine blk_alloc ?_ _)); exact BK738.out)) : gb738 ≠ gb741)); have n7_ := Aside0.mk ((by rw [hg]; exact Nat.ne_of_gt (blk_lt (g := gb738) (o := .cells #[.int .u64 0, .int .i64 0] 25 (0, 0)) (by (with_reducible repeat (first | refine blk_drewN ?_ _ | refine blk_drew ?_ | refine blk_alloc ?_ _)); exact BK738.out)) : gb741 ≠ gb738)); have n8_ := Aside0.mk ((by rw [hg]; exact Nat.ne_of_lt (blk_lt (g := gb739) (o := .cells #[.int .u64 x740000_1, .int .i64 x740001_1] 25 (0, 0)) (by (with_reducible repeat (first | refine blk_drewN ?_ _ | refine blk_drew ?_ | refine blk_alloc ?_ _)); exact BK739.out)) : gb739 ≠ gb741)); have n9_ := Aside0.mk ((by rw [hg]; exact Nat.ne_of_gt (blk_lt (g := gb739) (o := .cells #[.int .u64 x740000_1, .int .i64 x740001_1] 25 (0, 0)) (by (with_reducible repeat (first | refine blk_drewN ?_ _ | refine blk_drew ?_ | refine blk_alloc ?_ _)); exact BK739.out)) : gb741 ≠ gb739)); clear BK738; clear BK739; clear HB; have BK738 := n0_; have BK739 := n1_; have HB := n2_; have BK741 := n3_; have GW741 := n4_; have GE741 := n5_; have NB738_741 := n6_; have NB741_738 := n7_; have NB739_741 := n8_; have NB741_739 := n9_; clear n0_ n1_ n2_ n3_ n4_ n5_ n6_ n7_ n8_ n9_; clear hb hbox hg; have hnb19 := NB741_738.out; have hnc19 := NB738_741.out; have hnb20 := NB741_739.out; have hnc20 := NB739_741.out; have hcz21_0 : w18.cell? ⟨gb741, 0, none⟩ = some (.int .i64 0) := (blk_cell BK741.out 0).trans rfl; have hcz21_1 : w18.cell? ⟨gb741, 1, none⟩ = some (.slice none 0 0) := (blk_cell BK741.out 1).trans rfl; have hcz21_2 : w18.cell? ⟨gb741, 2, none⟩ = some (.slice none 0 0) := (blk_cell BK741.out 2).trans rfl; have hcz21_3 : w18.cell? ⟨gb741, 3, none⟩ = some (.int .i64 0) := (blk_cell BK741.out 3).trans rfl; have hcz21_4 : w18.cell? ⟨gb741, 4, none⟩ = some (.int .u64 0) := (blk_cell BK741.out 4).trans rfl; have hcz21_5 : w18.cell? ⟨gb741, 5, none⟩ = some (.int .i64 0) := (blk_cell BK741.out 5).trans rfl; have hfz21_0 := blk_frozen BK741.out 0; have hfz21_1 := blk_frozen BK741.out 1; have hfz21_2 := blk_frozen BK741.out 2; have hfz21_3 := blk_frozen BK741.out 3; have hfz21_4 := blk_frozen BK741.out 4; have hfz21_5 := blk_frozen BK741.out 5; have hnb22 := NB739_738.out; have hnc22 := NB738_739.out; have hcz23_0 : w18.cell? ⟨gb739, 0, none⟩ = some (.int .u64 x740000_1) := (blk_cell BK739.out 0).trans rfl; have hcz23_1 : w18.cell? ⟨gb739, 1, none⟩ = some (.int .i64 x740001_1) := (blk_cell BK739.out 1).trans rfl; have hfz23_0 := blk_frozen BK739.out 0; have hfz23_1 := blk_frozen BK739.out 1) | ((with_reducible refine gate_callee (f := 110) rfl ?_); refine goesL_ (some 16) rfl rfl Try.func110 (by kernel_rfl) rfl #[.agg #[.int .u64 ((rd_T87 l0 x8_1).f1.f3.f0), .int .i64 ((rd_T87 l0 x8_1).f1.f3.f1)], .agg #[.int .u64 x740000_1, .int .i64 x740001_1]] rfl za_ ?_; (with_reducible refine (ident_Above.calls ((rd_T87 l0 x8_1).f1.f3.f0) ((rd_T87 l0 x8_1).f1.f3.f1) x740000_1 x740001_1 false _ A7.out).mono ?_); rintro e w24 ⟨rfl, hb⟩; refine ⟨_, rfl, ?_⟩; have n0_ := Aside0.mk (blk_below (g := gb738) (o := .cells #[.int .u64 0, .int .i64 0] 25 (0, 0)) (by (with_reducible repeat (first | refine blk_drewN ?_ _ | refine blk_drew ?_ | refine blk_alloc ?_ _)); refine blk_far ?_ NB738_741.out _; (with_reducible repeat (first | refine blk_drewN ?_ _ | refine blk_drew ?_ | refine blk_alloc ?_ _)); refine blk_far ?_ NB738_741.out _; (with_reducible repeat (first | refine blk_drewN ?_ _ | refine blk_drew ?_ | refine blk_alloc ?_ _)); refine blk_far ?_ NB738_741.out _; (with_reducible repeat (first | refine blk_drewN ?_ _ | refine blk_drew ?_ | refine blk_alloc ?_ _)); refine blk_far ?_ NB738_741.out _; (with_reducible repeat (first | refine blk_drewN ?_ _ | refine blk_drew ?_ | refine blk_alloc ?_ _)); refine blk_far ?_ NB738_741.out _; (with_reducible repeat (first | refine blk_drewN ?_ _ | refine blk_drew ?_ | refine blk_alloc ?_ _)); refine blk_far ?_ NB738_741.out _; (with_reducible repeat (first | refine blk_drewN ?_ _ | refine blk_drew ?_ | refine blk_alloc ?_ _)); exact BK738.out) hb); have n1_ := Aside0.mk (blk_below (g := gb739) (o := .cells #[.int .u64 x740000_1, .int .i64 x740001_1] 25 (0, 0)) (by (with_reducible repeat (first | refine blk_drewN ?_ _ | refine blk_drew ?_ | refine blk_alloc ?_ _)); refine blk_far ?_ NB739_741.out _; (with_reducible repeat (first | refine blk_drewN ?_ _ | refine blk_drew ?_ | refine blk_alloc ?_ _)); refine blk_far ?_ NB739_741.out _; (with_reducible repeat (first | refine blk_drewN ?_ _ | refine blk_drew ?_ | refine blk_alloc ?_ _)); refine blk_far ?_ NB739_741.out _; (with_reducible repeat (first | refine blk_drewN ?_ _ | refine blk_drew ?_ | refine blk_alloc ?_ _)); refine blk_far ?_ NB739_741.out _; (with_reducible repeat (first | refine blk_drewN ?_ _ | refine blk_drew ?_ | refine blk_alloc ?_ _)); refine blk_far ?_ NB739_741.out _; (with_reducible repeat (first | refine blk_drewN ?_ _ | refine blk_drew ?_ | refine blk_alloc ?_ _)); refine blk_far ?_ NB739_741.out _; (with_reducible repeat (first | refine blk_drewN ?_ _ | refine blk_drew ?_ | refine blk_alloc ?_ _)); exact BK739.out) hb); have n2_ := Aside0.mk (blk_below (g := gb741) (o := .cells #[.int .i64 ((rd_T87 l0 x8_1).f0), .slice A740_1 ((rd_T87 l0 x8_1).f1.f0).length c740_1, .slice A740_2 ((rd_T87 l0 x8_1).f1.f1).length c740_2, .int .i64 ((rd_T87 l0 x8_1).f1.f2), .int .u64 ((rd_T87 l0 x8_1).f1.f3.f0), .int .i64 ((rd_T87 l0 x8_1).f1.f3.f1)] 87 (0, 0)) (by (with_reducible repeat (first | refine blk_drewN ?_ _ | refine blk_drew ?_ | refine blk_alloc ?_ _)); refine blk_put (cs := #[.int .i64 ((rd_T87 l0 x8_1).f0), .slice A740_1 ((rd_T87 l0 x8_1).f1.f0).length c740_1, .slice A740_2 ((rd_T87 l0 x8_1).f1.f1).length c740_2, .int .i64 ((rd_T87 l0 x8_1).f1.f2), .int .u64 ((rd_T87 l0 x8_1).f1.f3.f0), .int .i64 0]) ?_ 5 _ rfl; (with_reducible repeat (first | refine blk_drewN ?_ _ | refine blk_drew ?_ | refine blk_alloc ?_ _)); refine blk_put (cs := #[.int .i64 ((rd_T87 l0 x8_1).f0), .slice A740_1 ((rd_T87 l0 x8_1).f1.f0).length c740_1, .slice A740_2 ((rd_T87 l0 x8_1).f1.f1).length c740_2, .int .i64 ((rd_T87 l0 x8_1).f1.f2), .int .u64 0, .int .i64 0]) ?_ 4 _ rfl; (with_reducible repeat (first | refine blk_drewN ?_ _ | refine blk_drew ?_ | refine blk_alloc ?_ _)); refine blk_put (cs := #[.int .i64 ((rd_T87 l0 x8_1).f0), .slice A740_1 ((rd_T87 l0 x8_1).f1.f0).length c740_1, .slice A740_2 ((rd_T87 l0 x8_1).f1.f1).length c740_2, .int .i64 0, .int .u64 0, .int .i64 0]) ?_ 3 _ rfl; (with_reducible repeat (first | refine blk_drewN ?_ _ | refine blk_drew ?_ | refine blk_alloc ?_ _)); refine blk_put (cs := #[.int .i64 ((rd_T87 l0 x8_1).f0), .slice A740_1 ((rd_T87 l0 x8_1).f1.f0).length c740_1, .slice none 0 0, .int .i64 0, .int .u64 0, .int .i64 0]) ?_ 2 _ rfl; (with_reducible repeat (first | refine blk_drewN ?_ _ | refine blk_drew ?_ | refine blk_alloc ?_ _)); refine blk_put (cs := #[.int .i64 ((rd_T87 l0 x8_1).f0), .slice none 0 0, .slice none 0 0, .int .i64 0, .int .u64 0, .int .i64 0]) ?_ 1 _ rfl; (with_reducible repeat (first | refine blk_drewN ?_ _ | refine blk_drew ?_ | refine blk_alloc ?_ _)); refine blk_put (cs := #[.int .i64 0, .slice none 0 0, .slice none 0 0, .int .i64 0, .int .u64 0, .int .i64 0]) ?_ 0 _ rfl; (with_reducible repeat (first | refine blk_drewN ?_ _ | refine blk_drew ?_ | refine blk_alloc ?_ _)); exact BK741.out) hb); have n3_ := Aside0.mk (below_step zb_ hb); clear BK738; clear BK739; clear BK741; clear HB; have BK738 := n0_; have BK739 := n1_; have BK741 := n2_; have HB := n3_; clear n0_ n1_ n2_ n3_; (try clear hb); (try clear hb2); (try clear hk); (try clear hi)))
       go_roundg k1
       case measure => have := HK1.out; omega
       case rel => exact ⟨(wrap64 (x8_1 + 1)), (x740000_1), (x740001_1), (by first | rfl | (simp; done) | (simp [*]; done)), H', ⟨by have := HK1.out; omega⟩, ⟨by (with_reducible repeat (first | refine blk_drewN ?_ _ | refine blk_drew ?_ | refine blk_alloc ?_ _)); exact BK738.out⟩, ⟨by (with_reducible repeat (first | refine blk_drewN ?_ _ | refine blk_drew ?_ | refine blk_alloc ?_ _)); exact BK739.out⟩, ⟨by repeat (first | (with_reducible first | exact HB.out | apply below_alloc | apply pw_below_drewN | apply below_drew1 | refine below_set ?_ GE738.out | refine below_set ?_ GE739.out | refine below_set ?_ GE741.out) | exact HB.out)⟩⟩
     ·
      rw [if_neg c6] at H
      exact absurd H (by simp)
    ·
     rw [if_neg c5] at H
     exact absurd H (by simp)
   ·
    rw [if_neg c4] at H
    have c4b0 : decide (x8_1 < (l0.length : Int)) = false := decide_eq_false c4
    clear c4
    simp only [Option.some.injEq, Prod.mk.injEq] at H
    obtain ⟨rfl, rfl⟩ := H
    have hnb25 := NB739_738.out
    have hnc25 := NB738_739.out
    have hcz26_0 : wr.cell? ⟨gb739, 0, none⟩ = some (.int .u64 x740000_1) := (blk_cell BK739.out 0).trans rfl
    have hcz26_1 : wr.cell? ⟨gb739, 1, none⟩ = some (.int .i64 x740001_1) := (blk_cell BK739.out 1).trans rfl
    have hfz26_0 := blk_frozen BK739.out 0
    have hfz26_1 := blk_frozen BK739.out 1
    have hcz27_0 : wr.cell? ⟨gb738, 0, none⟩ = some (.int .u64 0) := (blk_cell BK738.out 0).trans rfl
    have hcz27_1 : wr.cell? ⟨gb738, 1, none⟩ = some (.int .i64 0) := (blk_cell BK738.out 1).trans rfl
    have hfz27_0 := blk_frozen BK738.out 0
    have hfz27_1 := blk_frozen BK738.out 1
    go_wp2
    refine bodyPost_ret (results_cell_row rfl _ _ gb738 25 #[.int .u64 x740000_1, .int .i64 x740001_1] (0, 0) _ rfl (by (with_reducible repeat (first | refine blk_drewN ?_ _ | refine blk_drew ?_ | refine blk_alloc ?_ _)); refine blk_put (cs := #[.int .u64 x740000_1, .int .i64 0]) ?_ 1 _ rfl; (with_reducible repeat (first | refine blk_drewN ?_ _ | refine blk_drew ?_ | refine blk_alloc ?_ _)); refine blk_put (cs := #[.int .u64 0, .int .i64 0]) ?_ 0 _ rfl; (with_reducible repeat (first | refine blk_drewN ?_ _ | refine blk_drew ?_ | refine blk_alloc ?_ _)); exact BK738.out) Try.underlying25 rfl (by kernel_rfl)) rfl ?_
    exact ⟨by first | rfl | (simp [errW_none, errW_some] <;> rfl) | (simp [*, errW_none, errW_some] <;> rfl), by repeat (first | (with_reducible first | exact HB.out | apply below_alloc | apply pw_below_drewN | apply below_drew1 | refine below_set ?_ GE738.out | refine below_set ?_ GE739.out) | exact HB.out)⟩
end Go.Proofs.Ytioooiflpabngaa.PAll
end
section
namespace Go.Proofs.Ytioooiflpabngaa.PAll
open Go.RowKit Go.Proofs.YtioooiflpabngaaW.PrintWords Go.Proofs.YtioooiflpabngaaW.PrintLast Go.Proofs.YtioooiflpabngaaW.PrintMore
attribute [local go_sem] max2_int min2_int max_two min_two max_three min_three max_four min_four   -- for this text's walks alone
set_option linter.unusedVariables false
set_option linter.unusedSimpArgs false
attribute [local go_sem high] eqA25
def exchange_Chosen.l0 : Nat → List (S87) → Int → List (S87) → Int → Int → Option (Int)
 | 0, _, _, _, _, _ => none
 | k + 1, x0, x3, x6, x7, x8 => if x8 < x7 then (if 0 ≤ x8 then (if x8 < (x6.length : Int) then ((exchange_High.f k x0).bind fun bt745 => (if (((rd_T87 x6 x8).f1.f3.f0) == bt745.1 && (((rd_T87 x6 x8).f1.f3.f1) == bt745.2)) = true then (exchange_Chosen.l0 k x0 (mx x3 ((rd_T87 x6 x8).f0)) x6 x7 (wrap64 (x8 + 1))) else (exchange_Chosen.l0 k x0 x3 x6 x7 (wrap64 (x8 + 1))))) else (none)) else (none)) else (some x3)
def exchange_Chosen.f (k : Nat) (l0 : List (S87)) : Option (Int) := exchange_Chosen.l0 k l0 (-1) l0 (l0.length : Int) 0
theorem exchange_Chosen.mono_l : ∀ k, (∀ y0 y1 y2 y3 y4, LeO (exchange_Chosen.l0 k y0 y1 y2 y3 y4) (exchange_Chosen.l0 (k + 1) y0 y1 y2 y3 y4))
 | 0 => fun _ _ _ _ _ r h => by simp [exchange_Chosen.l0] at h
 | k + 1 => by
  have ih0 := exchange_Chosen.mono_l k
  ·
   intro y0 y1 y2 y3 y4
   unfold exchange_Chosen.l0
   repeat' first
   | (with_reducible exact ih0 _ _ _ _ _)
   | (with_reducible exact exchange_High.mono _ _)
   | (with_reducible exact LeO.refl _)
   | (with_reducible exact LeO.none _)
   | (with_reducible refine LeO.ite ?_ ?_)
   | (with_reducible refine LeO.bind ?_ (fun _ => ?_))
   | exact ih0 _ _ _ _ _
   | exact exchange_High.mono _ _
   | exact LeO.none _
   | refine LeO.ite ?_ ?_
   | refine LeO.bind ?_ (fun _ => ?_)
theorem exchange_Chosen.mono : ∀ a0 k, LeO (exchange_Chosen.f k a0) (exchange_Chosen.f (k + 1) a0) := by
 intro a0 k
 have ih0 := exchange_Chosen.mono_l k
 unfold exchange_Chosen.f
 repeat' first
   | (with_reducible exact ih0 _ _ _ _ _)
   | (with_reducible exact exchange_High.mono _ _)
   | (with_reducible exact LeO.refl _)
   | (with_reducible exact LeO.none _)
   | (with_reducible refine LeO.ite ?_ ?_)
   | (with_reducible refine LeO.bind ?_ (fun _ => ?_))
   | exact ih0 _ _ _ _ _
   | exact exchange_High.mono _ _
   | exact LeO.none _
   | refine LeO.ite ?_ ?_
   | refine LeO.bind ?_ (fun _ => ?_)
set_option maxHeartbeats 8000000 in
set_option maxRecDepth 100000 in
theorem exchange_Chosen.calls (k : Nat) (A0 : Option Addr) (c0 : Nat) (l0 : List (S87)) (r : Int) (w : World) (hr0 : Kd.C k87 w A0 l0.length l0) (hc0 : l0.length ≤ c0) (h : exchange_Chosen.f k l0 = some r) :
  Calls Try.prog 61 #[.slice A0 l0.length c0] w fun e w' => e = .returned (.int .i64 r) ∧ Below w.heap.size w w' := by
 have hu87 := Try.underlying87
 have hu25 := Try.underlying25
 have HR0 := Aside0.mk hr0
 have HC0 := Aside0.mk hc0
 clear hr0 hc0
 have HB := Aside0.mk (Below.refl w.heap.size w)
 have H : (exchange_Chosen.l0 k l0 (-1) l0 (l0.length : Int) 0) = some r := h
 clear h
 have H' := Aside0.mk H
 clear H
 go_enter Try.func61, Try.ntmps61
 go_wp2
 go_loopg [3, 8] k (fun kq v3 v8 w' => ∃ (x3_1 : Int) (x8_1 : Int), v3 = .int .i64 x3_1 ∧ v8 = .int .i64 x8_1 ∧ Aside0 (exchange_Chosen.l0 kq l0 x3_1 l0 (l0.length : Int) x8_1 = some r) ∧ Aside0 (kq ≤ k) ∧ Aside0 (Below w.heap.size w w'))
 case atStart => exact ⟨((-1)), (0), (by first | rfl | (simp; done) | (simp [*]; done)), (by first | rfl | (simp; done) | (simp [*]; done)), H', ⟨Nat.le_refl _⟩, ⟨by repeat (first | (with_reducible first | exact HB.out | apply below_alloc | apply pw_below_drewN | apply below_drew1) | exact HB.out)⟩⟩
 case round =>
  clear H'
  obtain ⟨x3_1, x8_1, rfl, rfl, HA, HK1, HB⟩ := hrel
  cases gk with
  | zero => exact absurd HA.out (by simp [exchange_Chosen.l0])
  | succ k1 =>
   have H := HA.out
   clear HA
   simp only [exchange_Chosen.l0] at H
   by_cases c2 : x8_1 < (l0.length : Int)
   ·
    rw [if_pos c2] at H
    have c2b0 : decide (x8_1 < (l0.length : Int)) = true := decide_eq_true c2
    clear c2
    by_cases c3 : 0 ≤ x8_1
    ·
     rw [if_pos c3] at H
     have c3b0 : decide (0 ≤ x8_1) = true := decide_eq_true c3
     clear c3
     by_cases c4 : x8_1 < (l0.length : Int)
     ·
      rw [if_pos c4] at H
      have c4b0 : decide (x8_1 < (l0.length : Int)) = true := decide_eq_true c4
      clear c4
      replace H := Option.bind_eq_some_iff.mp H
      obtain ⟨⟨t745, t746⟩, A50, H⟩ := H
      replace H : (if (((rd_T87 l0 x8_1).f1.f3.f0) == t745 && (((rd_T87 l0 x8_1).f1.f3.f1) == t746)) = true then (exchange_Chosen.l0 k1 l0 (mx x3_1 ((rd_T87 l0 x8_1).f0)) l0 (l0.length : Int) (wrap64 (x8_1 + 1))) else (exchange_Chosen.l0 k1 l0 x3_1 l0 (l0.length : Int) (wrap64 (x8_1 + 1)))) = some r := H
      have A5 := Aside0.mk A50
      clear A50
      by_cases c6 : (((rd_T87 l0 x8_1).f1.f3.f0) == t745 && (((rd_T87 l0 x8_1).f1.f3.f1) == t746)) = true
      ·
       rw [if_pos c6] at H
       have c6b0 : (((rd_T87 l0 x8_1).f1.f3.f0) == t745 && (((rd_T87 l0 x8_1).f1.f3.f1) == t746)) = true := c6
       (try (have c6b1 : decide (((rd_T87 l0 x8_1).f1.f3.f0) = t745 && (((rd_T87 l0 x8_1).f1.f3.f1) == t746)) = true := by simpa using c6))
       (try (have c6b2 : (((rd_T87 l0 x8_1).f1.f3.f0) == t745 && (((rd_T87 l0 x8_1).f1.f3.f1) == t746)) = true := by simpa using c6))
       clear c6
       obtain ⟨ji7, hji7⟩ : ∃ j_ : Int, (mx x3_1 ((rd_T87 l0 x8_1).f0)) = j_ := ⟨_, rfl⟩
       replace H : (exchange_Chosen.l0 k1 l0 ji7 l0 (l0.length : Int) (wrap64 (x8_1 + 1))) = some r := by first | (rw [hji7] at H; exact H) | (simp only [hji7] at H ⊢; exact H)
       (try rw [hji7] at A5)
       have hji7_ : (if x3_1 < ((rd_T87 l0 x8_1).f0) then ((rd_T87 l0 x8_1).f0) else x3_1) = ji7 := hji7
       have H' := Aside0.mk H
       clear H
       have p743 : 0 ≤ (x8_1 : Int) := of_decide_eq_true zs_
       have q743 : x8_1 < (l0.length : Int) := of_decide_eq_true zs_
       obtain ⟨ad743, A743_1, c743_1, A743_2, c743_2, e743, hx743_0, hx743_1, hx743_2, hx743_3, hx743_4, hx743_5, hl743_1, hi743_1, hl743_2, hi743_2⟩ := at_T87 HR0.out x8_1 p743 q743
       cases e743
       replace hx743_0 := (HB.out.cell (World.block_lt_of_cell? w _ hx743_0)).trans hx743_0
       replace hx743_1 := (HB.out.cell (World.block_lt_of_cell? w _ hx743_1)).trans hx743_1
       replace hx743_2 := (HB.out.cell (World.block_lt_of_cell? w _ hx743_2)).trans hx743_2
       replace hx743_3 := (HB.out.cell (World.block_lt_of_cell? w _ hx743_3)).trans hx743_3
       replace hx743_4 := (HB.out.cell (World.block_lt_of_cell? w _ hx743_4)).trans hx743_4
       replace hx743_5 := (HB.out.cell (World.block_lt_of_cell? w _ hx743_5)).trans hx743_5
       have HR743_1 := Aside0.mk hi743_1
       have HC743_1 := Aside0.mk hl743_1
       clear hi743_1 hl743_1
       have HR743_2 := Aside0.mk hi743_2
       have HC743_2 := Aside0.mk hl743_2
       clear hi743_2 hl743_2
       replace p743 := eq_true p743
       replace q743 := eq_true q743
       try go_wp2_with (first | ((with_reducible refine gate_dst (N := 5) rfl ?_); refine box_event ?hg (N := 5) ?hd (cs := #[.int .i64 0, .slice none 0 0, .slice none 0 0, .int .i64 0, .int .u64 0, .int .i64 0]) (t := 87) ?hr ?_; (case hd => rfl); (case hg => rfl); (case hr => first | (go_simp; done) | (go_simp; rfl)); intro gb744 hg w8 hbox hb; have n0_ := Aside0.mk (below_step zb_ hb); have n1_ := Aside0.mk (hbox); have n2_ := Aside0.mk ((by rw [hg]; exact (below_size zb_) : w.heap.size ≤ gb744)); have n3_ := Aside0.mk ((by rw [hg]; exact (below_size zb_) : w.heap.size ≤ gb744)); clear HB; have HB := n0_; have BK744 := n1_; have GW744 := n2_; have GE744 := n3_; clear n0_ n1_ n2_ n3_; clear hb hbox hg; have hcz9_0 : w8.cell? ⟨gb744, 0, none⟩ = some (.int .i64 0) := (blk_cell BK744.out 0).trans rfl; have hcz9_1 : w8.cell? ⟨gb744, 1, none⟩ = some (.slice none 0 0) := (blk_cell BK744.out 1).trans rfl; have hcz9_2 : w8.cell? ⟨gb744, 2, none⟩ = some (.slice none 0 0) := (blk_cell BK744.out 2).trans rfl; have hcz9_3 : w8.cell? ⟨gb744, 3, none⟩ = some (.int .i64 0) := (blk_cell BK744.out 3).trans rfl; have hcz9_4 : w8.cell? ⟨gb744, 4, none⟩ = some (.int .u64 0) := (blk_cell BK744.out 4).trans rfl; have hcz9_5 : w8.cell? ⟨gb744, 5, none⟩ = some (.int .i64 0) := (blk_cell BK744.out 5).trans rfl; have hfz9_0 := blk_frozen BK744.out 0; have hfz9_1 := blk_frozen BK744.out 1; have hfz9_2 := blk_frozen BK744.out 2; have hfz9_3 := blk_frozen BK744.out 3; have hfz9_4 := blk_frozen BK744.out 4; have hfz9_5 := blk_frozen BK744.out 5))
       have n0_ : Aside0 (((((((w8.setCell ⟨gb744, 0, none⟩ (.int .i64 ((rd_T87 l0 x8_1).f0))).setCell ⟨gb744, 1, none⟩ (.slice A743_1 ((rd_T87 l0 x8_1).f1.f0).length c743_1)).setCell ⟨gb744, 2, none⟩ (.slice A743_2 ((rd_T87 l0 x8_1).f1.f1).length c743_2)).setCell ⟨gb744, 3, none⟩ (.int .i64 ((rd_T87 l0 x8_1).f1.f2))).setCell ⟨gb744, 4, none⟩ (.int .u64 ((rd_T87 l0 x8_1).f1.f3.f0))).setCell ⟨gb744, 5, none⟩ (.int .i64 ((rd_T87 l0 x8_1).f1.f3.f1))).heap[gb744]? = some (.cells #[.int .i64 ((rd_T87 l0 x8_1).f0), .slice A743_1 ((rd_T87 l0 x8_1).f1.f0).length c743_1, .slice A743_2 ((rd_T87 l0 x8_1).f1.f1).length c743_2, .int .i64 ((rd_T87 l0 x8_1).f1.f2), .int .u64 ((rd_T87 l0 x8_1).f1.f3.f0), .int .i64 ((rd_T87 l0 x8_1).f1.f3.f1)] 87 (0, 0))) := ⟨by (with_reducible repeat (first | refine blk_drewN ?_ _ | refine blk_drew ?_ | refine blk_alloc ?_ _)); refine blk_put (cs := #[.int .i64 ((rd_T87 l0 x8_1).f0), .slice A743_1 ((rd_T87 l0 x8_1).f1.f0).length c743_1, .slice A743_2 ((rd_T87 l0 x8_1).f1.f1).length c743_2, .int .i64 ((rd_T87 l0 x8_1).f1.f2), .int .u64 ((rd_T87 l0 x8_1).f1.f3.f0), .int .i64 0]) ?_ 5 _ rfl; (with_reducible repeat (first | refine blk_drewN ?_ _ | refine blk_drew ?_ | refine blk_alloc ?_ _)); refine blk_put (cs := #[.int .i64 ((rd_T87 l0 x8_1).f0), .slice A743_1 ((rd_T87 l0 x8_1).f1.f0).length c743_1, .slice A743_2 ((rd_T87 l0 x8_1).f1.f1).length c743_2, .int .i64 ((rd_T87 l0 x8_1).f1.f2), .int .u64 0, .int .i64 0]) ?_ 4 _ rfl; (with_reducible repeat (first | refine blk_drewN ?_ _ | refine blk_drew ?_ | refine blk_alloc ?_ _)); refine blk_put (cs := #[.int .i64 ((rd_T87 l0 x8_1).f0), .slice A743_1 ((rd_T87 l0 x8_1).f1.f0).length c743_1, .slice A743_2 ((rd_T87 l0 x8_1).f1.f1).length c743_2, .int .i64 0, .int .u64 0, .int .i64 0]) ?_ 3 _ rfl; (with_reducible repeat (first | refine blk_drewN ?_ _ | refine blk_drew ?_ | refine blk_alloc ?_ _)); refine blk_put (cs := #[.int .i64 ((rd_T87 l0 x8_1).f0), .slice A743_1 ((rd_T87 l0 x8_1).f1.f0).length c743_1, .slice none 0 0, .int .i64 0, .int .u64 0, .int .i64 0]) ?_ 2 _ rfl; (with_reducible repeat (first | refine blk_drewN ?_ _ | refine blk_drew ?_ | refine blk_alloc ?_ _)); refine blk_put (cs := #[.int .i64 ((rd_T87 l0 x8_1).f0), .slice none 0 0, .slice none 0 0, .int .i64 0, .int .u64 0, .int .i64 0]) ?_ 1 _ rfl; (with_reducible repeat (first | refine blk_drewN ?_ _ | refine blk_drew ?_ | refine blk_alloc ?_ _)); refine blk_put (cs := #[.int .i64 0, .slice none 0 0, .slice none 0 0, .int .i64 0, .int .u64 0, .int .i64 0]) ?_ 0 _ rfl; (with_reducible repeat (first | refine blk_drewN ?_ _ | refine blk_drew ?_ | refine blk_alloc ?_ _)); exact BK744.out⟩
       have n1_ : Aside0 (Below w.heap.size w ((((((w8.setCell ⟨gb744, 0, none⟩ (.int .i64 ((rd_T87 l0 x8_1).f0))).setCell ⟨gb744, 1, none⟩ (.slice A743_1 ((rd_T87 l0 x8_1).f1.f0).length c743_1)).setCell ⟨gb744, 2, none⟩ (.slice A743_2 ((rd_T87 l0 x8_1).f1.f1).length c743_2)).setCell ⟨gb744, 3, none⟩ (.int .i64 ((rd_T87 l0 x8_1).f1.f2))).setCell ⟨gb744, 4, none⟩ (.int .u64 ((rd_T87 l0 x8_1).f1.f3.f0))).setCell ⟨gb744, 5, none⟩ (.int .i64 ((rd_T87 l0 x8_1).f1.f3.f1)))) := ⟨by repeat (first | (with_reducible first | exact HB.out | apply below_alloc | apply pw_below_drewN | apply below_drew1 | refine below_set ?_ GE744.out) | exact HB.out)⟩
       (try clear BK744)
       (try clear HB)
       generalize ((((((w8.setCell ⟨gb744, 0, none⟩ (.int .i64 ((rd_T87 l0 x8_1).f0))).setCell ⟨gb744, 1, none⟩ (.slice A743_1 ((rd_T87 l0 x8_1).f1.f0).length c743_1)).setCell ⟨gb744, 2, none⟩ (.slice A743_2 ((rd_T87 l0 x8_1).f1.f1).length c743_2)).setCell ⟨gb744, 3, none⟩ (.int .i64 ((rd_T87 l0 x8_1).f1.f2))).setCell ⟨gb744, 4, none⟩ (.int .u64 ((rd_T87 l0 x8_1).f1.f3.f0))).setCell ⟨gb744, 5, none⟩ (.int .i64 ((rd_T87 l0 x8_1).f1.f3.f1))) = w10 at n0_ n1_ ⊢
       have BK744 := n0_
       have HB := n1_
       clear n0_ n1_
       have n0_ := Aside0.mk (blk_drew BK744.out)
       have n1_ := Aside0.mk (below_drew1 HB.out)
       clear BK744
       clear HB
       have BK744 := n0_
       have HB := n1_
       clear n0_ n1_
       refine start_ (n := 6) (S := fun w' => w'.cell? ⟨gb744, 0, none⟩ = some (.int .i64 ((rd_T87 l0 x8_1).f0)) ∧ w'.cell? ⟨gb744, 1, none⟩ = some (.slice A743_1 ((rd_T87 l0 x8_1).f1.f0).length c743_1) ∧ w'.cell? ⟨gb744, 2, none⟩ = some (.slice A743_2 ((rd_T87 l0 x8_1).f1.f1).length c743_2) ∧ w'.cell? ⟨gb744, 3, none⟩ = some (.int .i64 ((rd_T87 l0 x8_1).f1.f2)) ∧ w'.cell? ⟨gb744, 4, none⟩ = some (.int .u64 ((rd_T87 l0 x8_1).f1.f3.f0)) ∧ w'.cell? ⟨gb744, 5, none⟩ = some (.int .i64 ((rd_T87 l0 x8_1).f1.f3.f1))) (ds := []) #[F_,F_,F_,F_,F_,F_] (by kernel_rfl) rfl rfl ⟨(blk_cell BK744.out 0).trans rfl, (blk_cell BK744.out 1).trans rfl, (blk_cell BK744.out 2).trans rfl, (blk_cell BK744.out 3).trans rfl, (blk_cell BK744.out 4).trans rfl, (blk_cell BK744.out 5).trans rfl⟩ (fun hHeld => ?_)
       generalize w10.drew = w11 at BK744 HB hHeld ⊢
       refine pure_ (i := 0) (N := some 12) (v := ?_) (a' := ?_) #[T_,F_,F_,F_,F_,F_] rfl rfl (by kernel_rfl) (fun _ _ _ h => h) (Or.inl ⟨by rfl, ?_⟩) ?_ ?_
       rotate_left
       ·
        intro w'; go_simp; with_reducible rfl
       rotate_left
       ·
        exact zp_
       refine pure_ (i := 1) (N := some 13) (v := ?_) (a' := ?_) #[T_,T_,F_,F_,F_,F_] rfl rfl (by kernel_rfl) (fun _ _ _ h => h) (Or.inl ⟨by rfl, ?_⟩) ?_ ?_
       rotate_left
       ·
        intro w'; go_simp; with_reducible rfl
       rotate_left
       ·
        exact zp_
       refine pure_ (i := 3) (N := some 15) (v := ?_) (a' := ?_) #[T_,T_,F_,T_,F_,F_] rfl rfl (by kernel_rfl) (fun _ _ _ h => h) (Or.inl ⟨by rfl, ?_⟩) ?_ ?_
       rotate_left
       ·
        intro w'; go_simp; with_reducible rfl
       rotate_left
       ·
        exact zp_
       refine take_ (i := 2) (N := some 14) (v := ?_) (a' := ?_) #[T_,T_,T_,T_,F_,F_] rfl rfl (by kernel_rfl) (fun _ _ _ h => h) (Or.inl ⟨by rfl, ?_⟩) hHeld ?_ ?_
       rotate_left
       ·
        rintro w' ⟨s0, s1, s2, s3, s4, s5⟩
        go_simp
        with_reducible rfl
       rotate_left
       ·
        exact zp_
       refine one_ (i := 4) (N := some 16) #[T_,T_,T_,T_,T_,F_] rfl rfl (by kernel_rfl) (by decide) (fun K hK => ?_)
       refine goes_ Try.func59 (by kernel_rfl) rfl #[.slice (some ad743) l0.length c0] (by rfl) rfl rfl za_ ?_
       with_reducible refine (exchange_High.calls k1 _ _ l0 t745 t746 _ ?side1 ?side2 A5.out).mono ?_
       (case side1 => exact zc_ HR0 HB)
       (case side2 => exact HC0.out)
       rintro e w12 ⟨rfl, hb⟩
       refine ⟨_, rfl, ?_⟩
       have n0_ := zk_ BK744 hb
       have n1_ := Aside0.mk (below_step zb_ hb)
       clear BK744
       clear HB
       have BK744 := n0_
       have HB := n1_
       clear n0_ n1_
       (try clear hb)
       (try clear hb2)
       (try clear hk)
       (try clear hi)
       refine hK.out _ _ ⟨(blk_cell BK744.out 0).trans rfl, (blk_cell BK744.out 1).trans rfl, (blk_cell BK744.out 2).trans rfl, (blk_cell BK744.out 3).trans rfl, (blk_cell BK744.out 4).trans rfl, (blk_cell BK744.out 5).trans rfl⟩ (fun hHeld => ?_)
       clear hK K
       refine norm_ (a' := ?_) ?_ ?_
       rotate_left
       ·
        show Act.put _ (some 16) _ = _
        simp only [Act.put, List.setIfInBounds_toArray, List.set_cons_zero, List.set_cons_succ, i64_w, i32_w]
        rfl
       refine pure_ (i := 5) (N := some 17) (v := ?_) (a' := ?_) #[T_,T_,T_,T_,T_,T_] rfl rfl (by kernel_rfl) (fun _ _ _ h => h) (Or.inl ⟨by rfl, ?_⟩) ?_ ?_
       rotate_left
       ·
        intro w'; go_simp; with_reducible rfl
       rotate_left
       ·
        exact zp_
       refine done_ (by kernel_rfl) ?_
       have hcz13_0 : w12.cell? ⟨gb744, 0, none⟩ = some (.int .i64 ((rd_T87 l0 x8_1).f0)) := (blk_cell BK744.out 0).trans rfl
       have hcz13_1 : w12.cell? ⟨gb744, 1, none⟩ = some (.slice A743_1 ((rd_T87 l0 x8_1).f1.f0).length c743_1) := (blk_cell BK744.out 1).trans rfl
       have hcz13_2 : w12.cell? ⟨gb744, 2, none⟩ = some (.slice A743_2 ((rd_T87 l0 x8_1).f1.f1).length c743_2) := (blk_cell BK744.out 2).trans rfl
       have hcz13_3 : w12.cell? ⟨gb744, 3, none⟩ = some (.int .i64 ((rd_T87 l0 x8_1).f1.f2)) := (blk_cell BK744.out 3).trans rfl
       have hcz13_4 : w12.cell? ⟨gb744, 4, none⟩ = some (.int .u64 ((rd_T87 l0 x8_1).f1.f3.f0)) := (blk_cell BK744.out 4).trans rfl
       have hcz13_5 : w12.cell? ⟨gb744, 5, none⟩ = some (.int .i64 ((rd_T87 l0 x8_1).f1.f3.f1)) := (blk_cell BK744.out 5).trans rfl
       have hfz13_0 := blk_frozen BK744.out 0
       have hfz13_1 := blk_frozen BK744.out 1
       have hfz13_2 := blk_frozen BK744.out 2
       have hfz13_3 := blk_frozen BK744.out 3
       have hfz13_4 := blk_frozen BK744.out 4
       have hfz13_5 := blk_frozen BK744.out 5
       try go_wp2
       go_roundg k1
       case measure => have := HK1.out; omega
       case rel => exact ⟨(ji7), (wrap64 (x8_1 + 1)), (by first | rfl | (simp; done) | (simp only [← hji7] <;> (first | rfl | simp)) | (simp [*]; done)), (by first | rfl | (simp; done) | (simp [*]; done)), H', ⟨by have := HK1.out; omega⟩, ⟨by repeat (first | (with_reducible first | exact HB.out | apply below_alloc | apply pw_below_drewN | apply below_drew1 | refine below_set ?_ GE744.out) | exact HB.out)⟩⟩
      ·
       rw [if_neg c6] at H
       have c6b0 : (((rd_T87 l0 x8_1).f1.f3.f0) == t745 && (((rd_T87 l0 x8_1).f1.f3.f1) == t746)) = false := by simpa using c6
       (try (have c6b1 : decide (((rd_T87 l0 x8_1).f1.f3.f0) = t745 && (((rd_T87 l0 x8_1).f1.f3.f1) == t746)) = false := by simpa using c6))
       (try (have c6b2 : (((rd_T87 l0 x8_1).f1.f3.f0) == t745 && (((rd_T87 l0 x8_1).f1.f3.f1) == t746)) = false := by simpa using c6))
       (try (have c6b3 : ¬ (((rd_T87 l0 x8_1).f1.f3.f0) = t745 && (((rd_T87 l0 x8_1).f1.f3.f1) == t746)) := by simpa using c6))
       clear c6
       have H' := Aside0.mk H
       clear H
       have p743 : 0 ≤ (x8_1 : Int) := of_decide_eq_true zs_
       have q743 : x8_1 < (l0.length : Int) := of_decide_eq_true zs_
       obtain ⟨ad743, A743_1, c743_1, A743_2, c743_2, e743, hx743_0, hx743_1, hx743_2, hx743_3, hx743_4, hx743_5, hl743_1, hi743_1, hl743_2, hi743_2⟩ := at_T87 HR0.out x8_1 p743 q743
       cases e743
       replace hx743_0 := (HB.out.cell (World.block_lt_of_cell? w _ hx743_0)).trans hx743_0
       replace hx743_1 := (HB.out.cell (World.block_lt_of_cell? w _ hx743_1)).trans hx743_1
       replace hx743_2 := (HB.out.cell (World.block_lt_of_cell? w _ hx743_2)).trans hx743_2
       replace hx743_3 := (HB.out.cell (World.block_lt_of_cell? w _ hx743_3)).trans hx743_3
       replace hx743_4 := (HB.out.cell (World.block_lt_of_cell? w _ hx743_4)).trans hx743_4
       replace hx743_5 := (HB.out.cell (World.block_lt_of_cell? w _ hx743_5)).trans hx743_5
       have HR743_1 := Aside0.mk hi743_1
       have HC743_1 := Aside0.mk hl743_1
       clear hi743_1 hl743_1
       have HR743_2 := Aside0.mk hi743_2
       have HC743_2 := Aside0.mk hl743_2
       clear hi743_2 hl743_2
       replace p743 := eq_true p743
       replace q743 := eq_true q743
       try go_wp2_with (first | ((with_reducible refine gate_dst (N := 5) rfl ?_); refine box_event ?hg (N := 5) ?hd (cs := #[.int .i64 0, .slice none 0 0, .slice none 0 0, .int .i64 0, .int .u64 0, .int .i64 0]) (t := 87) ?hr ?_; (case hd => rfl); (case hg => rfl); (case hr => first | (go_simp; done) | (go_simp; rfl)); intro gb744 hg w14 hbox hb; have n0_ := Aside0.mk (below_step zb_ hb); have n1_ := Aside0.mk (hbox); have n2_ := Aside0.mk ((by rw [hg]; exact (below_size zb_) : w.heap.size ≤ gb744)); have n3_ := Aside0.mk ((by rw [hg]; exact (below_size zb_) : w.heap.size ≤ gb744)); clear HB; have HB := n0_; have BK744 := n1_; have GW744 := n2_; have GE744 := n3_; clear n0_ n1_ n2_ n3_; clear hb hbox hg; have hcz15_0 : w14.cell? ⟨gb744, 0, none⟩ = some (.int .i64 0) := (blk_cell BK744.out 0).trans rfl; have hcz15_1 : w14.cell? ⟨gb744, 1, none⟩ = some (.slice none 0 0) := (blk_cell BK744.out 1).trans rfl; have hcz15_2 : w14.cell? ⟨gb744, 2, none⟩ = some (.slice none 0 0) := (blk_cell BK744.out 2).trans rfl; have hcz15_3 : w14.cell? ⟨gb744, 3, none⟩ = some (.int .i64 0) := (blk_cell BK744.out 3).trans rfl; have hcz15_4 : w14.cell? ⟨gb744, 4, none⟩ = some (.int .u64 0) := (blk_cell BK744.out 4).trans rfl; have hcz15_5 : w14.cell? ⟨gb744, 5, none⟩ = some (.int .i64 0) := (blk_cell BK744.out 5).trans rfl; have hfz15_0 := blk_frozen BK744.out 0; have hfz15_1 := blk_frozen BK744.out 1; have hfz15_2 := blk_frozen BK744.out 2; have hfz15_3 := blk_frozen BK744.out 3; have hfz15_4 := blk_frozen BK744.out 4; have hfz15_5 := blk_frozen BK744.out 5))
       have n0_ : Aside0 (((((((w14.setCell ⟨gb744, 0, none⟩ (.int .i64 ((rd_T87 l0 x8_1).f0))).setCell ⟨gb744, 1, none⟩ (.slice A743_1 ((rd_T87 l0 x8_1).f1.f0).length c743_1)).setCell ⟨gb744, 2, none⟩ (.slice A743_2 ((rd_T87 l0 x8_1).f1.f1).length c743_2)).setCell ⟨gb744, 3, none⟩ (.int .i64 ((rd_T87 l0 x8_1).f1.f2))).setCell ⟨gb744, 4, none⟩ (.int .u64 ((rd_T87 l0 x8_1).f1.f3.f0))).setCell ⟨gb744, 5, none⟩ (.int .i64 ((rd_T87 l0 x8_1).f1.f3.f1))).heap[gb744]? = some (.cells #[.int .i64 ((rd_T87 l0 x8_1).f0), .slice A743_1 ((rd_T87 l0 x8_1).f1.f0).length c743_1, .slice A743_2 ((rd_T87 l0 x8_1).f1.f1).length c743_2, .int .i64 ((rd_T87 l0 x8_1).f1.f2), .int .u64 ((rd_T87 l0 x8_1).f1.f3.f0), .int .i64 ((rd_T87 l0 x8_1).f1.f3.f1)] 87 (0, 0))) := ⟨by (with_reducible repeat (first | refine blk_drewN ?_ _ | refine blk_drew ?_ | refine blk_alloc ?_ _)); refine blk_put (cs := #[.int .i64 ((rd_T87 l0 x8_1).f0), .slice A743_1 ((rd_T87 l0 x8_1).f1.f0).length c743_1, .slice A743_2 ((rd_T87 l0 x8_1).f1.f1).length c743_2, .int .i64 ((rd_T87 l0 x8_1).f1.f2), .int .u64 ((rd_T87 l0 x8_1).f1.f3.f0), .int .i64 0]) ?_ 5 _ rfl; (with_reducible repeat (first | refine blk_drewN ?_ _ | refine blk_drew ?_ | refine blk_alloc ?_ _)); refine blk_put (cs := #[.int .i64 ((rd_T87 l0 x8_1).f0), .slice A743_1 ((rd_T87 l0 x8_1).f1.f0).length c743_1, .slice A743_2 ((rd_T87 l0 x8_1).f1.f1).length c743_2, .int .i64 ((rd_T87 l0 x8_1).f1.f2), .int .u64 0, .int .i64 0]) ?_ 4 _ rfl; (with_reducible repeat (first | refine blk_drewN ?_ _ | refine blk_drew ?_ | refine blk_alloc ?_ _)); refine blk_put (cs := #[.int .i64 ((rd_T87 l0 x8_1).f0), .slice A743_1 ((rd_T87 l0 x8_1).f1.f0).length c743_1, .slice A743_2 ((rd_T87 l0 x8_1).f1.f1).length c743_2, .int .i64 0, .int .u64 0, .int .i64 0]) ?_ 3 _ rfl; (with_reducible repeat (first | refine blk_drewN ?_ _ | refine blk_drew ?_ | refine blk_alloc ?_ _)); refine blk_put (cs := #[.int .i64 ((rd_T87 l0 x8_1).f0), .slice A743_1 ((rd_T87 l0 x8_1).f1.f0).length c743_1, .slice none 0 0, .int .i64 0, .int .u64 0, .int .i64 0]) ?_ 2 _ rfl; (with_reducible repeat (first | refine blk_drewN ?_ _ | refine blk_drew ?_ | refine blk_alloc ?_ _)); refine blk_put (cs := #[.int .i64 ((rd_T87 l0 x8_1).f0), .slice none 0 0, .slice none 0 0, .int .i64 0, .int .u64 0, .int .i64 0]) ?_ 1 _ rfl; (with_reducible repeat (first | refine blk_drewN ?_ _ | refine blk_drew ?_ | refine blk_alloc ?_ _)); refine blk_put (cs := #[.int .i64 0, .slice none 0 0, .slice none 0 0, .int .i64 0, .int .u64 0, .int .i64 0]) ?_ 0 _ rfl; (with_reducible repeat (first | refine blk_drewN ?_ _ | refine blk_drew ?_ | refine blk_alloc ?_ _)); exact BK744.out⟩
       have n1_ : Aside0 (Below w.heap.size w ((((((w14.setCell ⟨gb744, 0, none⟩ (.int .i64 ((rd_T87 l0 x8_1).f0))).setCell ⟨gb744, 1, none⟩ (.slice A743_1 ((rd_T87 l0 x8_1).f1.f0).length c743_1)).setCell ⟨gb744, 2, none⟩ (.slice A743_2 ((rd_T87 l0 x8_1).f1.f1).length c743_2)).setCell ⟨gb744, 3, none⟩ (.int .i64 ((rd_T87 l0 x8_1).f1.f2))).setCell ⟨gb744, 4, none⟩ (.int .u64 ((rd_T87 l0 x8_1).f1.f3.f0))).setCell ⟨gb744, 5, none⟩ (.int .i64 ((rd_T87 l0 x8_1).f1.f3.f1)))) := ⟨by repeat (first | (with_reducible first | exact HB.out | apply below_alloc | apply pw_below_drewN | apply below_drew1 | refine below_set ?_ GE744.out) | exact HB.out)⟩
       (try clear BK744)
       (try clear HB)
       generalize ((((((w14.setCell ⟨gb744, 0, none⟩ (.int .i64 ((rd_T87 l0 x8_1).f0))).setCell ⟨gb744, 1, none⟩ (.slice A743_1 ((rd_T87 l0 x8_1).f1.f0).length c743_1)).setCell ⟨gb744, 2, none⟩ (.slice A743_2 ((rd_T87 l0 x8_1).f1.f1).length c743_2)).setCell ⟨gb744, 3, none⟩ (.int .i64 ((rd_T87 l0 x8_1).f1.f2))).setCell ⟨gb744, 4, none⟩ (.int .u64 ((rd_T87 l0 x8_1).f1.f3.f0))).setCell ⟨gb744, 5, none⟩ (.int .i64 ((rd_T87 l0 x8_1).f1.f3.f1))) = w16 at n0_ n1_ ⊢
       have BK744 := n0_
       have HB := n1_
       clear n0_ n1_
       have n0_ := Aside0.mk (blk_drew BK744.out)
       have n1_ := Aside0.mk (below_drew1 HB.out)
       clear BK744
       clear HB
       have BK744 := n0_
       have HB := n1_
       clear n0_ n1_
       refine start_ (n := 6) (S := fun w' => w'.cell? ⟨gb744, 0, none⟩ = some (.int .i64 ((rd_T87 l0 x8_1).f0)) ∧ w'.cell? ⟨gb744, 1, none⟩ = some (.slice A743_1 ((rd_T87 l0 x8_1).f1.f0).length c743_1) ∧ w'.cell? ⟨gb744, 2, none⟩ = some (.slice A743_2 ((rd_T87 l0 x8_1).f1.f1).length c743_2) ∧ w'.cell? ⟨gb744, 3, none⟩ = some (.int .i64 ((rd_T87 l0 x8_1).f1.f2)) ∧ w'.cell? ⟨gb744, 4, none⟩ = some (.int .u64 ((rd_T87 l0 x8_1).f1.f3.f0)) ∧ w'.cell? ⟨gb744, 5, none⟩ = some (.int .i64 ((rd_T87 l0 x8_1).f1.f3.f1))) (ds := []) #[F_,F_,F_,F_,F_,F_] (by kernel_rfl) rfl rfl ⟨(blk_cell BK744.out 0).trans rfl, (blk_cell BK744.out 1).trans rfl, (blk_cell BK744.out 2).trans rfl, (blk_cell BK744.out 3).trans rfl, (blk_cell BK744.out 4).trans rfl, (blk_cell BK744.out 5).trans rfl⟩ (fun hHeld => ?_)
       generalize w16.drew = w17 at BK744 HB hHeld ⊢
       refine pure_ (i := 0) (N := some 12) (v := ?_) (a' := ?_) #[T_,F_,F_,F_,F_,F_] rfl rfl (by kernel_rfl) (fun _ _ _ h => h) (Or.inl ⟨by rfl, ?_⟩) ?_ ?_
       rotate_left
       ·
        intro w'; go_simp; with_reducible rfl
       rotate_left
       ·
        exact zp_
       refine pure_ (i := 1) (N := some 13) (v := ?_) (a' := ?_) #[T_,T_,F_,F_,F_,F_] rfl rfl (by kernel_rfl) (fun _ _ _ h => h) (Or.inl ⟨by rfl, ?_⟩) ?_ ?_
       rotate_left
       ·
        intro w'; go_simp; with_reducible rfl
       rotate_left
       ·
        exact zp_
       refine pure_ (i := 3) (N := some 15) (v := ?_) (a' := ?_) #[T_,T_,F_,T_,F_,F_] rfl rfl (by kernel_rfl) (fun _ _ _ h => h) (Or.inl ⟨by rfl, ?_⟩) ?_ ?_
       rotate_left
       ·
        intro w'; go_simp; with_reducible rfl
       rotate_left
       ·
        exact zp_
       refine take_ (i := 2) (N := some 14) (v := ?_) (a' := ?_) #[T_,T_,T_,T_,F_,F_] rfl rfl (by kernel_rfl) (fun _ _ _ h => h) (Or.inl ⟨by rfl, ?_⟩) hHeld ?_ ?_
       rotate_left
       ·
        rintro w' ⟨s0, s1, s2, s3, s4, s5⟩
        go_simp
        with_reducible rfl
       rotate_left
       ·
        exact zp_
       refine one_ (i := 4) (N := some 16) #[T_,T_,T_,T_,T_,F_] rfl rfl (by kernel_rfl) (by decide) (fun K hK => ?_)
       refine goes_ Try.func59 (by kernel_rfl) rfl #[.slice (some ad743) l0.length c0] (by rfl) rfl rfl za_ ?_
       with_reducible refine (exchange_High.calls k1 _ _ l0 t745 t746 _ ?side1 ?side2 A5.out).mono ?_
       (case side1 => exact zc_ HR0 HB)
       (case side2 => exact HC0.out)
       rintro e w18 ⟨rfl, hb⟩
       refine ⟨_, rfl, ?_⟩
       have n0_ := zk_ BK744 hb
       have n1_ := Aside0.mk (below_step zb_ hb)
       clear BK744
       clear HB
       have BK744 := n0_
       have HB := n1_
       clear n0_ n1_
       (try clear hb)
       (try clear hb2)
       (try clear hk)
       (try clear hi)
       refine hK.out _ _ ⟨(blk_cell BK744.out 0).trans rfl, (blk_cell BK744.out 1).trans rfl, (blk_cell BK744.out 2).trans rfl, (blk_cell BK744.out 3).trans rfl, (blk_cell BK744.out 4).trans rfl, (blk_cell BK744.out 5).trans rfl⟩ (fun hHeld => ?_)
       clear hK K
       refine norm_ (a' := ?_) ?_ ?_
       rotate_left
       ·
        show Act.put _ (some 16) _ = _
        simp only [Act.put, List.setIfInBounds_toArray, List.set_cons_zero, List.set_cons_succ, i64_w, i32_w]
        rfl
       refine pure_ (i := 5) (N := some 17) (v := ?_) (a' := ?_) #[T_,T_,T_,T_,T_,T_] rfl rfl (by kernel_rfl) (fun _ _ _ h => h) (Or.inl ⟨by rfl, ?_⟩) ?_ ?_
       rotate_left
       ·
        intro w'; go_simp; with_reducible rfl
       rotate_left
       ·
        exact zp_
       refine done_ (by kernel_rfl) ?_
       try go_wp2
       go_roundg k1
       case measure => have := HK1.out; omega
       case rel => exact ⟨(x3_1), (wrap64 (x8_1 + 1)), (by first | rfl | (simp; done) | (simp [*]; done)), (by first | rfl | (simp; done) | (simp [*]; done)), H', ⟨by have := HK1.out; omega⟩, ⟨by repeat (first | (with_reducible first | exact HB.out | apply below_alloc | apply pw_below_drewN | apply below_drew1 | refine below_set ?_ GE744.out) | exact HB.out)⟩⟩
     ·
      rw [if_neg c4] at H
      exact absurd H (by simp)
    ·
     rw [if_neg c3] at H
     exact absurd H (by simp)
   ·
    rw [if_neg c2] at H
    have c2b0 : decide (x8_1 < (l0.length : Int)) = false := decide_eq_false c2
    clear c2
    obtain rfl := Option.some.inj H
    go_wp2
    go_ret
    exact ⟨by first | rfl | (simp [errW_none, errW_some] <;> rfl) | (simp [*, errW_none, errW_some] <;> rfl), by repeat (first | (with_reducible first | exact HB.out | apply below_alloc | apply pw_below_drewN | apply below_drew1) | exact HB.out)⟩
end Go.Proofs.Ytioooiflpabngaa.PAll
end
section
namespace Go.Proofs.Ytioooiflpabngaa.PAll
open Go.RowKit Go.Proofs.YtioooiflpabngaaW.PrintWords Go.Proofs.YtioooiflpabngaaW.PrintLast Go.Proofs.YtioooiflpabngaaW.PrintMore
attribute [local go_sem] max2_int min2_int max_two min_two max_three min_three max_four min_four   -- for this text's walks alone
set_option linter.unusedVariables false
set_option linter.unusedSimpArgs false
def exchange_Next.l0 : Nat → Int → List (S87) → Int → Int → Option (Int)
 | 0, _, _, _, _ => none
 | k + 1, x3, x6, x7, x8 => if x8 < x7 then (if 0 ≤ x8 then (if x8 < (x6.length : Int) then (exchange_Next.l0 k (mx x3 ((rd_T87 x6 x8).f1.f2)) x6 x7 (wrap64 (x8 + 1))) else (none)) else (none)) else (some x3)
def exchange_Next.f (k : Nat) (l0 : List (S87)) : Option (Int) := exchange_Next.l0 k 1 l0 (l0.length : Int) 0
theorem exchange_Next.mono_l : ∀ k, (∀ y0 y1 y2 y3, LeO (exchange_Next.l0 k y0 y1 y2 y3) (exchange_Next.l0 (k + 1) y0 y1 y2 y3))
 | 0 => fun _ _ _ _ r h => by simp [exchange_Next.l0] at h
 | k + 1 => by
  have ih0 := exchange_Next.mono_l k
  ·
   intro y0 y1 y2 y3
   unfold exchange_Next.l0
   repeat' first
   | (with_reducible exact ih0 _ _ _ _)
   | (with_reducible exact LeO.refl _)
   | (with_reducible exact LeO.none _)
   | (with_reducible refine LeO.ite ?_ ?_)
   | (with_reducible refine LeO.bind ?_ (fun _ => ?_))
   | exact ih0 _ _ _ _
   | exact LeO.none _
   | refine LeO.ite ?_ ?_
   | refine LeO.bind ?_ (fun _ => ?_)
theorem exchange_Next.mono : ∀ a0 k, LeO (exchange_Next.f k a0) (exchange_Next.f (k + 1) a0) := by
 intro a0 k
 have ih0 := exchange_Next.mono_l k
 unfold exchange_Next.f
 repeat' first
   | (with_reducible exact ih0 _ _ _ _)
   | (with_reducible exact LeO.refl _)
   | (with_reducible exact LeO.none _)
   | (with_reducible refine LeO.ite ?_ ?_)
   | (with_reducible refine LeO.bind ?_ (fun _ => ?_))
   | exact ih0 _ _ _ _
   | exact LeO.none _
   | refine LeO.ite ?_ ?_
   | refine LeO.bind ?_ (fun _ => ?_)
set_option maxHeartbeats 8000000 in
set_option maxRecDepth 100000 in
theorem exchange_Next.calls (k : Nat) (A0 : Option Addr) (c0 : Nat) (l0 : List (S87)) (r : Int) (w : World) (hr0 : Kd.C k87 w A0 l0.length l0) (hc0 : l0.length ≤ c0) (h : exchange_Next.f k l0 = some r) :
  Calls Try.prog 68 #[.slice A0 l0.length c0] w fun e w' => e = .returned (.int .i64 r) ∧ Below w.heap.size w w' := by
 have hu87 := Try.underlying87
 have HR0 := Aside0.mk hr0
 have HC0 := Aside0.mk hc0
 clear hr0 hc0
 have HB := Aside0.mk (Below.refl w.heap.size w)
 have H : (exchange_Next.l0 k 1 l0 (l0.length : Int) 0) = some r := h
 clear h
 have H' := Aside0.mk H
 clear H
 go_enter Try.func68, Try.ntmps68
 go_wp2
 go_loopg [3, 8] k (fun kq v3 v8 w' => ∃ (x3_1 : Int) (x8_1 : Int), v3 = .int .i64 x3_1 ∧ v8 = .int .i64 x8_1 ∧ Aside0 (exchange_Next.l0 kq x3_1 l0 (l0.length : Int) x8_1 = some r) ∧ Aside0 (kq ≤ k) ∧ Aside0 (Below w.heap.size w w'))
 case atStart => exact ⟨(1), (0), (by first | rfl | (simp; done) | (simp [*]; done)), (by first | rfl | (simp; done) | (simp [*]; done)), H', ⟨Nat.le_refl _⟩, ⟨by repeat (first | (with_reducible first | exact HB.out | apply below_alloc | apply pw_below_drewN | apply below_drew1) | exact HB.out)⟩⟩
 case round =>
  clear H'
  obtain ⟨x3_1, x8_1, rfl, rfl, HA, HK1, HB⟩ := hrel
  cases gk with
  | zero => exact absurd HA.out (by simp [exchange_Next.l0])
  | succ k1 =>
   have H := HA.out
   clear HA
   simp only [exchange_Next.l0] at H
   by_cases c2 : x8_1 < (l0.length : Int)
   ·
    rw [if_pos c2] at H
    have c2b0 : decide (x8_1 < (l0.length : Int)) = true := decide_eq_true c2
    clear c2
    by_cases c3 : 0 ≤ x8_1
    ·
     rw [if_pos c3] at H
     have c3b0 : decide (0 ≤ x8_1) = true := decide_eq_true c3
     clear c3
     by_cases c4 : x8_1 < (l0.length : Int)
     ·
      rw [if_pos c4] at H
      have c4b0 : decide (x8_1 < (l0.length : Int)) = true := decide_eq_true c4
      clear c4
      obtain ⟨ji5, hji5⟩ : ∃ j_ : Int, (mx x3_1 ((rd_T87 l0 x8_1).f1.f2)) = j_ := ⟨_, rfl⟩
      replace H : (exchange_Next.l0 k1 ji5 l0 (l0.length : Int) (wrap64 (x8_1 + 1))) = some r := by first | (rw [hji5] at H; exact H) | (simp only [hji5] at H ⊢; exact H)
      have hji5_ : (if x3_1 < ((rd_T87 l0 x8_1).f1.f2) then ((rd_T87 l0 x8_1).f1.f2) else x3_1) = ji5 := hji5
      have H' := Aside0.mk H
      clear H
      have p753 : 0 ≤ (x8_1 : Int) := of_decide_eq_true zs_
      have q753 : x8_1 < (l0.length : Int) := of_decide_eq_true zs_
      obtain ⟨ad753, A753_1, c753_1, A753_2, c753_2, e753, hx753_0, hx753_1, hx753_2, hx753_3, hx753_4, hx753_5, hl753_1, hi753_1, hl753_2, hi753_2⟩ := at_T87 HR0.out x8_1 p753 q753
      cases e753
      replace hx753_0 := (HB.out.cell (World.block_lt_of_cell? w _ hx753_0)).trans hx753_0
      replace hx753_1 := (HB.out.cell (World.block_lt_of_cell? w _ hx753_1)).trans hx753_1
      replace hx753_2 := (HB.out.cell (World.block_lt_of_cell? w _ hx753_2)).trans hx753_2
      replace hx753_3 := (HB.out.cell (World.block_lt_of_cell? w _ hx753_3)).trans hx753_3
      replace hx753_4 := (HB.out.cell (World.block_lt_of_cell? w _ hx753_4)).trans hx753_4
      replace hx753_5 := (HB.out.cell (World.block_lt_of_cell? w _ hx753_5)).trans hx753_5
      have HR753_1 := Aside0.mk hi753_1
      have HC753_1 := Aside0.mk hl753_1
      clear hi753_1 hl753_1
      have HR753_2 := Aside0.mk hi753_2
      have HC753_2 := Aside0.mk hl753_2
      clear hi753_2 hl753_2
      replace p753 := eq_true p753
      replace q753 := eq_true q753
      go_wp2_with (first | ((with_reducible refine gate_dst (N := 5) rfl ?_); refine box_event ?hg (N := 5) ?hd (cs := #[.int .i64 0, .slice none 0 0, .slice none 0 0, .int .i64 0, .int .u64 0, .int .i64 0]) (t := 87) ?hr ?_; (case hd => rfl); (case hg => rfl); (case hr => first | (go_simp; done) | (go_simp; rfl)); intro gb754 hg w6 hbox hb; have n0_ := Aside0.mk (below_step zb_ hb); have n1_ := Aside0.mk (hbox); have n2_ := Aside0.mk ((by rw [hg]; exact (below_size zb_) : w.heap.size ≤ gb754)); have n3_ := Aside0.mk ((by rw [hg]; exact (below_size zb_) : w.heap.size ≤ gb754)); clear HB; have HB := n0_; have BK754 := n1_; have GW754 := n2_; have GE754 := n3_; clear n0_ n1_ n2_ n3_; clear hb hbox hg; have hcz7_0 : w6.cell? ⟨gb754, 0, none⟩ = some (.int .i64 0) := (blk_cell BK754.out 0).trans rfl; have hcz7_1 : w6.cell? ⟨gb754, 1, none⟩ = some (.slice none 0 0) := (blk_cell BK754.out 1).trans rfl; have hcz7_2 : w6.cell? ⟨gb754, 2, none⟩ = some (.slice none 0 0) := (blk_cell BK754.out 2).trans rfl; have hcz7_3 : w6.cell? ⟨gb754, 3, none⟩ = some (.int .i64 0) := (blk_cell BK754.out 3).trans rfl; have hcz7_4 : w6.cell? ⟨gb754, 4, none⟩ = some (.int .u64 0) := (blk_cell BK754.out 4).trans rfl; have hcz7_5 : w6.cell? ⟨gb754, 5, none⟩ = some (.int .i64 0) := (blk_cell BK754.out 5).trans rfl; have hfz7_0 := blk_frozen BK754.out 0; have hfz7_1 := blk_frozen BK754.out 1; have hfz7_2 := blk_frozen BK754.out 2; have hfz7_3 := blk_frozen BK754.out 3; have hfz7_4 := blk_frozen BK754.out 4; have hfz7_5 := blk_frozen BK754.out 5))
      go_roundg k1
      case measure => have := HK1.out; omega
      case rel => exact ⟨(ji5), (wrap64 (x8_1 + 1)), (by first | rfl | (simp; done) | (simp only [← hji5] <;> (first | rfl | simp)) | (simp [*]; done)), (by first | rfl | (simp; done) | (simp [*]; done)), H', ⟨by have := HK1.out; omega⟩, ⟨by repeat (first | (with_reducible first | exact HB.out | apply below_alloc | apply pw_below_drewN | apply below_drew1 | refine below_set ?_ GE754.out) | exact HB.out)⟩⟩
     ·
      rw [if_neg c4] at H
      exact absurd H (by simp)
    ·
     rw [if_neg c3] at H
     exact absurd H (by simp)
   ·
    rw [if_neg c2] at H
    have c2b0 : decide (x8_1 < (l0.length : Int)) = false := decide_eq_false c2
    clear c2
    obtain rfl := Option.some.inj H
    go_wp2
    go_ret
    exact ⟨by first | rfl | (simp [errW_none, errW_some] <;> rfl) | (simp [*, errW_none, errW_some] <;> rfl), by repeat (first | (with_reducible first | exact HB.out | apply below_alloc | apply pw_below_drewN | apply below_drew1) | exact HB.out)⟩
end Go.Proofs.Ytioooiflpabngaa.PAll
end
section
namespace Go.Proofs.Ytioooiflpabngaa.PAll
open Go.RowKit Go.Proofs.YtioooiflpabngaaW.PrintWords Go.Proofs.YtioooiflpabngaaW.PrintMore
set_option linter.unusedVariables false
set_option linter.unusedSimpArgs false
theorem rdT_nat {l : List S87} {n : Nat} (h : n < l.length) : rd_T87 l (n : Int) = l[n] := by
  unfold rd_T87
  rw [List.getD_eq_getElem?_getD, Int.toNat_natCast, List.getElem?_eq_getElem h]
  rfl
theorem rdS_nat {l : List S53} {n : Nat} (h : n < l.length) : rd_T53 l (n : Int) = l[n] := by
  unfold rd_T53
  rw [List.getD_eq_getElem?_getD, Int.toNat_natCast, List.getElem?_eq_getElem h]
  rfl
def hiStep (v x : S25) : S25 := if cmpV x v > 0 then x else v
def hiV (l : List S25) : S25 := l.foldl hiStep ⟨0, 0⟩
theorem above_eq (a b : S25) : ident_Above.f a.f0 a.f1 b.f0 b.f1 = some (decide (cmpV a b > 0)) := by
  unfold ident_Above.f
  rw [ident_Compare_eq, Option.bind_some]
theorem high_loop (l : List S87) (hl : l.length < 9223372036854775807) : ∀ (d i : Nat) (v : S25), d = l.length - i → i ≤ l.length → Ev (fun k => exchange_High.l0 k l (l.length : Int) (i : Int) v.f0 v.f1) ((((l.drop i).map fun t => t.f1.f3).foldl hiStep v).f0, (((l.drop i).map fun t => t.f1.f3).foldl hiStep v).f1) := by
  intro d
  induction d with
  | zero =>
    intro i v hd hi
    have : i = l.length := by omega
    subst this
    rw [List.drop_length]
    exact Ev.step (fun k => by rw [exchange_High.l0, if_neg (by omega)]; rfl) (Ev.const fun _ => rfl)
  | succ d ih =>
    intro i v hd hi
    have hlt : i < l.length := by omega
    rw [List.drop_eq_getElem_cons hlt, List.map_cons, List.foldl_cons]
    have h1 := ih (i + 1) (hiStep v l[i].f1.f3) (by omega) (by omega)
    refine Ev.step (b := fun k => exchange_High.l0 k l (l.length : Int) ((i + 1 : Nat) : Int) (hiStep v l[i].f1.f3).f0 (hiStep v l[i].f1.f3).f1) (fun k => ?_) h1
    rw [exchange_High.l0, if_pos (by omega), if_pos (by omega), if_pos (by omega), rdT_nat hlt, above_eq, Option.bind_some, wrap_nat (by omega)]
    unfold hiStep
    by_cases hc : cmpV l[i].f1.f3 v > 0
    · simp only [hc, decide_true, if_true]
    · simp only [hc, decide_false, Bool.false_eq_true, if_false]
theorem high_ev (l : List S87) (hl : l.length < 9223372036854775807) : Ev (fun k => exchange_High.f k l) ((hiV (l.map fun t => t.f1.f3)).f0, (hiV (l.map fun t => t.f1.f3)).f1) := by
  have := high_loop l hl l.length 0 ⟨0, 0⟩ (by omega) (by omega)
  simpa [exchange_High.f, hiV] using this
def eqV (a b : S25) : Bool := a.f0 == b.f0 && (a.f1 == b.f1)
def chStep (v : S25) (b : Int) (t : S87) : Int := if eqV t.f1.f3 v = true then mx b t.f0 else b
def chosenT (l : List S87) : Int := l.foldl (chStep (hiV (l.map fun t => t.f1.f3))) (-1)
theorem chosen_loop (l : List S87) (hl : l.length < 9223372036854775807) : ∀ (d i : Nat) (b : Int), d = l.length - i → i ≤ l.length → Ev (fun k => exchange_Chosen.l0 k l b l (l.length : Int) (i : Int)) ((l.drop i).foldl (chStep (hiV (l.map fun t => t.f1.f3))) b) := by
  intro d
  induction d with
  | zero =>
    intro i b hd hi
    have : i = l.length := by omega
    subst this
    rw [List.drop_length]
    exact Ev.step (fun k => by rw [exchange_Chosen.l0, if_neg (by omega)]; rfl) (Ev.const fun _ => rfl)
  | succ d ih =>
    intro i b hd hi
    have hlt : i < l.length := by omega
    rw [List.drop_eq_getElem_cons hlt, List.foldl_cons]
    have h1 := ih (i + 1) (chStep (hiV (l.map fun t => t.f1.f3)) b l[i]) (by omega) (by omega)
    refine Ev.step (b := fun k => (exchange_High.f k l).bind fun bt => if ((l[i].f1.f3.f0) == bt.1 && ((l[i].f1.f3.f1) == bt.2)) = true then exchange_Chosen.l0 k l (mx b l[i].f0) l (l.length : Int) ((i + 1 : Nat) : Int) else exchange_Chosen.l0 k l b l (l.length : Int) ((i + 1 : Nat) : Int)) (fun k => ?_) (Ev.bind (high_ev l hl) ?_)
    · rw [exchange_Chosen.l0, if_pos (by omega), if_pos (by omega), if_pos (by omega), rdT_nat hlt, wrap_nat (by omega)]
    · unfold chStep at h1 ⊢
      show Ev (fun k => if eqV l[i].f1.f3 (hiV (l.map fun t => t.f1.f3)) = true then _ else _) _
      by_cases hc : eqV l[i].f1.f3 (hiV (l.map fun t => t.f1.f3)) = true
      · simp only [hc, if_true] at h1 ⊢
        exact h1
      · rw [Bool.not_eq_true] at hc
        simp only [hc, Bool.false_eq_true, if_false] at h1 ⊢
        exact h1
theorem chosen_ev (l : List S87) (hl : l.length < 9223372036854775807) : Ev (fun k => exchange_Chosen.f k l) (chosenT l) := by
  have := chosen_loop l hl l.length 0 (-1) (by omega) (by omega)
  simpa [exchange_Chosen.f, chosenT] using this
end Go.Proofs.Ytioooiflpabngaa.PAll
end
section
namespace Go.Proofs.Ytioooiflpabngaa.PAll
open Go.RowKit Go.Proofs.YtioooiflpabngaaW.PrintWords
set_option linter.unusedVariables false
set_option linter.unusedSimpArgs false
def RiseL (l : List S27) : Prop := l.Pairwise ltL
theorem riseL_ext : ∀ {a b : List S27}, RiseL a → RiseL b → (∀ x, x ∈ a ↔ x ∈ b) → a = b := by
  intro a
  induction a with
  | nil =>
    intro b _ _ h
    cases b with
    | nil => rfl
    | cons y b => exact absurd ((h y).2 (List.mem_cons_self ..)) (by simp)
  | cons x a ih =>
    intro b ha hb h
    cases b with
    | nil => exact absurd ((h x).1 (List.mem_cons_self ..)) (by simp)
    | cons y b =>
      obtain ⟨a1, a2⟩ := List.pairwise_cons.1 ha
      obtain ⟨b1, b2⟩ := List.pairwise_cons.1 hb
      have hxy : x = y := by
        rcases List.mem_cons.1 ((h x).1 (List.mem_cons_self ..)) with e | hx
        · exact e
        · rcases List.mem_cons.1 ((h y).2 (List.mem_cons_self ..)) with e | hy
          · exact e.symm
          · exact absurd (ltL_trans (a1 y hy) (b1 x hx)) (ltL_irrefl _)
      subst hxy
      rw [ih a2 b2 fun z => ?_]
      constructor
      · intro hz
        rcases List.mem_cons.1 ((h z).1 (List.mem_cons_of_mem _ hz)) with e | hz2
        · subst e
          exact absurd (a1 z hz) (ltL_irrefl _)
        · exact hz2
      · intro hz
        rcases List.mem_cons.1 ((h z).2 (List.mem_cons_of_mem _ hz)) with e | hz2
        · subst e
          exact absurd (b1 z hz) (ltL_irrefl _)
        · exact hz2
theorem mem_insL {x y : S27} : ∀ {l : List S27}, y ∈ insL l x ↔ y = x ∨ y ∈ l
  | [] => by simp [insL]
  | a :: l => by
    unfold insL
    split
    · rw [List.mem_cons, mem_insL (l := l), List.mem_cons]
      constructor
      · rintro (h | h | h)
        · exact .inr (.inl h)
        · exact .inl h
        · exact .inr (.inr h)
      · rintro (h | h | h)
        · exact .inr (.inl h)
        · exact .inl h
        · exact .inr (.inr h)
    · split
      · rename_i h
        have e := cmpL_eq.1 h
        subst e
        simp
      · simp
theorem insL_rise {x : S27} : ∀ {l : List S27}, RiseL l → RiseL (insL l x)
  | [], _ => List.pairwise_singleton _ _
  | a :: l, h => by
    obtain ⟨h1, h2⟩ := List.pairwise_cons.1 h
    unfold insL
    split
    · rename_i hc
      rw [cmpL_neg] at hc
      refine List.pairwise_cons.2 ⟨fun y hy => ?_, insL_rise h2⟩
      rcases mem_insL.1 hy with rfl | hy
      · exact hc
      · exact h1 y hy
    · split
      · exact h
      · rename_i hn hz
        have hlt : ltL x a := by
          rcases ltL_total x a with h | h | h
          · exact h
          · exact absurd (cmpL_eq.2 h.symm) hz
          · exact absurd ((cmpL_neg _ _).2 h) hn
        refine List.pairwise_cons.2 ⟨fun y hy => ?_, h⟩
        rcases List.mem_cons.1 hy with rfl | hy
        · exact hlt
        · exact ltL_trans hlt (h1 y hy)
theorem foldL_rise : ∀ {more l : List S27}, RiseL l → RiseL (more.foldl insL l)
  | [], _, h => h
  | x :: more, l, h => foldL_rise (more := more) (insL_rise h)
theorem mem_foldL {y : S27} : ∀ {more l : List S27}, y ∈ more.foldl insL l ↔ y ∈ l ∨ y ∈ more
  | [], l => by simp
  | x :: more, l => by
    rw [List.foldl_cons, mem_foldL (more := more), mem_insL, List.mem_cons]
    constructor
    · rintro ((h | h) | h)
      · exact .inr (.inl h)
      · exact .inl h
      · exact .inr (.inr h)
    · rintro (h | h | h)
      · exact .inl (.inr h)
      · exact .inl (.inl h)
      · exact .inr h
theorem sortL_rise (l : List S27) : RiseL (sortL l) := foldL_rise List.Pairwise.nil
theorem mem_sortL {y : S27} {l : List S27} : y ∈ sortL l ↔ y ∈ l := by
  unfold sortL
  rw [mem_foldL]
  simp
theorem insL_length (x : S27) : ∀ l : List S27, (insL l x).length ≤ l.length + 1
  | [] => by simp [insL]
  | a :: l => by
    have h := insL_length x l
    unfold insL
    split
    · simp only [List.length_cons]; omega
    · split <;> simp
theorem foldL_length : ∀ (more l : List S27), (more.foldl insL l).length ≤ l.length + more.length
  | [], l => by simp
  | x :: more, l => by
    have h1 := foldL_length more (insL l x)
    have h2 := insL_length x l
    simp only [List.foldl_cons, List.length_cons]
    omega
theorem sortL_length (l : List S27) : (sortL l).length ≤ l.length := by
  have := foldL_length l []
  simpa [sortL] using this
end Go.Proofs.Ytioooiflpabngaa.PAll
end
section
namespace Go.Proofs.Ytioooiflpabngaa.PAll
open Go.RowKit Go.Proofs.YtioooiflpabngaaW.PrintWords Go.Proofs.YtioooiflpabngaaW.PrintLast Go.Proofs.YtioooiflpabngaaW.PrintMore
attribute [local go_sem] max2_int min2_int max_two min_two max_three min_three max_four min_four   -- for this text's walks alone
set_option linter.unusedVariables false
set_option linter.unusedSimpArgs false
attribute [local go_sem high] eqA27
def folkmootref05_In.l0 : Nat → List (S27) → Int → Int → Int → Int → Int → Option (Bool)
 | 0, _, _, _, _, _, _ => none
 | k + 1, x0, x5, x408000, x408001, x408002, x408003 => if x5 < (x0.length : Int) then (if 0 ≤ x5 then (if ((((rd_T27 x0 x5).f0.f0) == x408000 && (((rd_T27 x0 x5).f0.f1) == x408001)) && (((rd_T27 x0 x5).f1) == x408002 && (((rd_T27 x0 x5).f2) == x408003))) = true then (some true) else (folkmootref05_In.l0 k x0 (wrap64 (x5 + 1)) x408000 x408001 x408002 x408003)) else (none)) else (some false)
def folkmootref05_In.f (k : Nat) (l0 : List (S27)) (a1_0 : Int) (a1_1 : Int) (a1_2 : Int) (a1_3 : Int) : Option (Bool) := folkmootref05_In.l0 k l0 0 a1_0 a1_1 a1_2 a1_3
set_option maxHeartbeats 8000000 in
set_option maxRecDepth 100000 in
theorem folkmootref05_In.calls (k : Nat) (A0 : Option Addr) (c0 : Nat) (l0 : List (S27)) (a1_0 : Int) (a1_1 : Int) (a1_2 : Int) (a1_3 : Int) (r : Bool) (w : World) (hr0 : Kd.C k27 w A0 l0.length l0) (hc0 : l0.length ≤ c0) (h : folkmootref05_In.f k l0 a1_0 a1_1 a1_2 a1_3 = some r) :
  Calls Try.prog 36 #[.slice A0 l0.length c0, .agg #[.int .u64 a1_0, .int .i64 a1_1, .int .u64 a1_2, .int .i64 a1_3]] w fun e w' => e = .returned (.bool r) ∧ Below w.heap.size w w' := by
 have hu27 := Try.underlying27
 have HR0 := Aside0.mk hr0
 have HC0 := Aside0.mk hc0
 clear hr0 hc0
 have HB := Aside0.mk (Below.refl w.heap.size w)
 have H : (folkmootref05_In.l0 k l0 0 a1_0 a1_1 a1_2 a1_3) = some r := h
 clear h
 have H' := Aside0.mk H
 clear H
 go_enter Try.func36, Try.ntmps36
 go_wp2_with (first | ((with_reducible refine gate_dst (N := 3) rfl ?_); refine box_event ?hg (N := 3) ?hd (cs := #[.int .u64 a1_0, .int .i64 a1_1, .int .u64 a1_2, .int .i64 a1_3]) (t := 27) ?hr ?_; (case hd => rfl); (case hg => rfl); (case hr => first | (go_simp; done) | (go_simp; rfl)); intro gb407 hg w3 hbox hb; have n0_ := Aside0.mk (below_step zb_ hb); have n1_ := Aside0.mk (hbox); have n2_ := Aside0.mk ((by rw [hg]; exact (below_size zb_) : w.heap.size ≤ gb407)); have n3_ := Aside0.mk ((by rw [hg]; exact (below_size zb_) : w.heap.size ≤ gb407)); clear HB; have HB := n0_; have BK407 := n1_; have GW407 := n2_; have GE407 := n3_; clear n0_ n1_ n2_ n3_; clear hb hbox hg))
 repeat (go_quiet (first | ((with_reducible refine gate_dst (N := 3) rfl ?_); refine box_event ?hg (N := 3) ?hd (cs := #[.int .u64 a1_0, .int .i64 a1_1, .int .u64 a1_2, .int .i64 a1_3]) (t := 27) ?hr ?_; (case hd => rfl); (case hg => rfl); (case hr => first | (go_simp; done) | (go_simp; rfl)); intro gb407 hg w3 hbox hb; have n0_ := Aside0.mk (below_step zb_ hb); have n1_ := Aside0.mk (hbox); have n2_ := Aside0.mk ((by rw [hg]; exact (below_size zb_) : w.heap.size ≤ gb407)); have n3_ := Aside0.mk ((by rw [hg]; exact (below_size zb_) : w.heap.size ≤ gb407)); clear HB; have HB := n0_; have BK407 := n1_; have GW407 := n2_; have GE407 := n3_; clear n0_ n1_ n2_ n3_; clear hb hbox hg)); try go_wp2_with (first | ((with_reducible refine gate_dst (N := 3) rfl ?_); refine box_event ?hg (N := 3) ?hd (cs := #[.int .u64 a1_0, .int .i64 a1_1, .int .u64 a1_2, .int .i64 a1_3]) (t := 27) ?hr ?_; (case hd => rfl); (case hg => rfl); (case hr => first | (go_simp; done) | (go_simp; rfl)); intro gb407 hg w3 hbox hb; have n0_ := Aside0.mk (below_step zb_ hb); have n1_ := Aside0.mk (hbox); have n2_ := Aside0.mk ((by rw [hg]; exact (below_size zb_) : w.heap.size ≤ gb407)); have n3_ := Aside0.mk ((by rw [hg]; exact (below_size zb_) : w.heap.size ≤ gb407)); clear HB; have HB := n0_; have BK407 := n1_; have GW407 := n2_; have GE407 := n3_; clear n0_ n1_ n2_ n3_; clear hb hbox hg)))
 go_loopg [5] k (fun kq v5 w' => ∃ (x5_1 : Int), v5 = .int .i64 x5_1 ∧ Aside0 (folkmootref05_In.l0 kq l0 x5_1 a1_0 a1_1 a1_2 a1_3 = some r) ∧ Aside0 (kq ≤ k) ∧ Aside0 (w'.heap[gb407]? = some (.cells #[.int .u64 a1_0, .int .i64 a1_1, .int .u64 a1_2, .int .i64 a1_3] 27 (0, 0))) ∧ Aside0 (Below w.heap.size w w'))
 case atStart => exact ⟨(0), (by first | rfl | (simp; done) | (simp [*]; done)), H', ⟨Nat.le_refl _⟩, ⟨by (with_reducible repeat (first | refine blk_drewN ?_ _ | refine blk_drew ?_ | refine blk_alloc ?_ _)); exact BK407.out⟩, ⟨by repeat (first | (with_reducible first | exact HB.out | apply below_alloc | apply pw_below_drewN | apply below_drew1 | refine below_set ?_ GE407.out) | exact HB.out)⟩⟩
 case round =>
  clear H'
  try clear p2
  try clear c3
  obtain ⟨x5_1, rfl, HA, HK1, BK407, HB⟩ := hrel
  cases gk with
  | zero => exact absurd HA.out (by simp [folkmootref05_In.l0])
  | succ k1 =>
   have H := HA.out
   clear HA
   simp only [folkmootref05_In.l0] at H
   by_cases c4 : x5_1 < (l0.length : Int)
   ·
    rw [if_pos c4] at H
    have c4b0 : decide (x5_1 < (l0.length : Int)) = true := decide_eq_true c4
    clear c4
    by_cases c5 : 0 ≤ x5_1
    ·
     rw [if_pos c5] at H
     have c5b0 : decide (0 ≤ x5_1) = true := decide_eq_true c5
     clear c5
     by_cases c6 : ((((rd_T27 l0 x5_1).f0.f0) == a1_0 && (((rd_T27 l0 x5_1).f0.f1) == a1_1)) && (((rd_T27 l0 x5_1).f1) == a1_2 && (((rd_T27 l0 x5_1).f2) == a1_3))) = true
     ·
      rw [if_pos c6] at H
      have c6b0 : ((((rd_T27 l0 x5_1).f0.f0) == a1_0 && (((rd_T27 l0 x5_1).f0.f1) == a1_1)) && (((rd_T27 l0 x5_1).f1) == a1_2 && (((rd_T27 l0 x5_1).f2) == a1_3))) = true := c6
      clear c6
      obtain rfl := Option.some.inj H
      have p408 : 0 ≤ (x5_1 : Int) := of_decide_eq_true zs_
      have q408 : x5_1 < (l0.length : Int) := of_decide_eq_true zs_
      obtain ⟨ad408, e408, hx408_0, hx408_1, hx408_2, hx408_3⟩ := at_T27 HR0.out x5_1 p408 q408
      cases e408
      replace hx408_0 := (HB.out.cell (World.block_lt_of_cell? w _ hx408_0)).trans hx408_0
      replace hx408_1 := (HB.out.cell (World.block_lt_of_cell? w _ hx408_1)).trans hx408_1
      replace hx408_2 := (HB.out.cell (World.block_lt_of_cell? w _ hx408_2)).trans hx408_2
      replace hx408_3 := (HB.out.cell (World.block_lt_of_cell? w _ hx408_3)).trans hx408_3
      replace p408 := eq_true p408
      replace q408 := eq_true q408
      have hcz7_0 : wr.cell? ⟨gb407, 0, none⟩ = some (.int .u64 a1_0) := (blk_cell BK407.out 0).trans rfl
      have hcz7_1 : wr.cell? ⟨gb407, 1, none⟩ = some (.int .i64 a1_1) := (blk_cell BK407.out 1).trans rfl
      have hcz7_2 : wr.cell? ⟨gb407, 2, none⟩ = some (.int .u64 a1_2) := (blk_cell BK407.out 2).trans rfl
      have hcz7_3 : wr.cell? ⟨gb407, 3, none⟩ = some (.int .i64 a1_3) := (blk_cell BK407.out 3).trans rfl
      have hfz7_0 := blk_frozen BK407.out 0
      have hfz7_1 := blk_frozen BK407.out 1
      have hfz7_2 := blk_frozen BK407.out 2
      have hfz7_3 := blk_frozen BK407.out 3
      go_wp2
      repeat (go_quiet (fail); try go_wp2)
      go_ret
      exact ⟨by first | rfl | (simp [errW_none, errW_some] <;> rfl) | (simp [*, errW_none, errW_some] <;> rfl), by repeat (first | (with_reducible first | exact HB.out | apply below_alloc | apply pw_below_drewN | apply below_drew1 | refine below_set ?_ GE407.out) | exact HB.out)⟩
     ·
      rw [if_neg c6] at H
      have c6b0 : ((((rd_T27 l0 x5_1).f0.f0) == a1_0 && (((rd_T27 l0 x5_1).f0.f1) == a1_1)) && (((rd_T27 l0 x5_1).f1) == a1_2 && (((rd_T27 l0 x5_1).f2) == a1_3))) = false := by simpa using c6
      clear c6
      have H' := Aside0.mk H
      clear H
      have p408 : 0 ≤ (x5_1 : Int) := of_decide_eq_true zs_
      have q408 : x5_1 < (l0.length : Int) := of_decide_eq_true zs_
      obtain ⟨ad408, e408, hx408_0, hx408_1, hx408_2, hx408_3⟩ := at_T27 HR0.out x5_1 p408 q408
      cases e408
      replace hx408_0 := (HB.out.cell (World.block_lt_of_cell? w _ hx408_0)).trans hx408_0
      replace hx408_1 := (HB.out.cell (World.block_lt_of_cell? w _ hx408_1)).trans hx408_1
      replace hx408_2 := (HB.out.cell (World.block_lt_of_cell? w _ hx408_2)).trans hx408_2
      replace hx408_3 := (HB.out.cell (World.block_lt_of_cell? w _ hx408_3)).trans hx408_3
      replace p408 := eq_true p408
      replace q408 := eq_true q408
      have hcz8_0 : wr.cell? ⟨gb407, 0, none⟩ = some (.int .u64 a1_0) := (blk_cell BK407.out 0).trans rfl
      have hcz8_1 : wr.cell? ⟨gb407, 1, none⟩ = some (.int .i64 a1_1) := (blk_cell BK407.out 1).trans rfl
      have hcz8_2 : wr.cell? ⟨gb407, 2, none⟩ = some (.int .u64 a1_2) := (blk_cell BK407.out 2).trans rfl
      have hcz8_3 : wr.cell? ⟨gb407, 3, none⟩ = some (.int .i64 a1_3) := (blk_cell BK407.out 3).trans rfl
      have hfz8_0 := blk_frozen BK407.out 0
      have hfz8_1 := blk_frozen BK407.out 1
      have hfz8_2 := blk_frozen BK407.out 2
      have hfz8_3 := blk_frozen BK407.out 3
      go_wp2
      repeat (go_quiet (fail); try go_wp2)
      go_roundg k1
      case measure => have := HK1.out; omega
      case rel => exact ⟨(wrap64 (x5_1 + 1)), (by first | rfl | (simp; done) | (simp [*]; done)), H', ⟨by have := HK1.out; omega⟩, ⟨by (with_reducible repeat (first | refine blk_drewN ?_ _ | refine blk_drew ?_ | refine blk_alloc ?_ _)); exact BK407.out⟩, ⟨by repeat (first | (with_reducible first | exact HB.out | apply below_alloc | apply pw_below_drewN | apply below_drew1 | refine below_set ?_ GE407.out) | exact HB.out)⟩⟩
    ·
     rw [if_neg c5] at H
     exact absurd H (by simp)
   ·
    rw [if_neg c4] at H
    have c4b0 : decide (x5_1 < (l0.length : Int)) = false := decide_eq_false c4
    clear c4
    obtain rfl := Option.some.inj H
    go_wp2
    repeat (go_quiet (fail); try go_wp2)
    go_ret
    exact ⟨by first | rfl | (simp [errW_none, errW_some] <;> rfl) | (simp [*, errW_none, errW_some] <;> rfl), by repeat (first | (with_reducible first | exact HB.out | apply below_alloc | apply pw_below_drewN | apply below_drew1 | refine below_set ?_ GE407.out) | exact HB.out)⟩
end Go.Proofs.Ytioooiflpabngaa.PAll
end
section
namespace Go.Proofs.Ytioooiflpabngaa.PAll
open Go.RowKit Go.Proofs.YtioooiflpabngaaW.PrintWords
set_option linter.unusedVariables false
set_option linter.unusedSimpArgs false
theorem memL_iff {x : S27} {l : List S27} : memL x l = true ↔ x ∈ l := by
  unfold memL
  rw [List.any_eq_true]
  constructor
  · rintro ⟨y, hy, he⟩
    rw [← eqL_iff.1 he]
    exact hy
  · intro h
    exact ⟨x, h, eqL_iff.2 rfl⟩
theorem refIn_loop (l : List S27) (b : S27) (hl : l.length < 9223372036854775807) : ∀ (d i : Nat), d = l.length - i → i ≤ l.length → Ev (fun k => folkmootref05_In.l0 k l (i : Int) b.f0.f0 b.f0.f1 b.f1 b.f2) (memL b (l.drop i)) := by
  intro d
  induction d with
  | zero =>
    intro i hd hi
    have : i = l.length := by omega
    subst this
    refine Ev.step (b := fun _ => some false) (fun k => ?_) (Ev.const fun _ => by simp [memL])
    rw [folkmootref05_In.l0, if_neg (by omega)]
  | succ d ih =>
    intro i hd hi
    have hlt : i < l.length := by omega
    rw [List.drop_eq_getElem_cons hlt, show memL b (l[i] :: l.drop (i + 1)) = (eqL l[i] b || memL b (l.drop (i + 1))) from rfl]
    refine Ev.step (b := fun k => if eqL l[i] b = true then some true else folkmootref05_In.l0 k l ((i + 1 : Nat) : Int) b.f0.f0 b.f0.f1 b.f1 b.f2) (fun k => ?_) ?_
    · rw [folkmootref05_In.l0, if_pos (by omega), if_pos (by omega), rdL_nat hlt, eqL_spell, wrap_nat (by omega)]
    · by_cases h : eqL l[i] b = true
      · simp only [h, if_true]; exact Ev.const fun _ => rfl
      · rw [Bool.not_eq_true] at h
        simp only [h, Bool.false_or, Bool.false_eq_true, if_false]
        exact ih (i + 1) (by omega) (by omega)
theorem refIn_ev (l : List S27) (b : S27) (hl : l.length < 9223372036854775807) : Ev (fun k => folkmootref05_In.f k l b.f0.f0 b.f0.f1 b.f1 b.f2) (memL b l) := by
  have := refIn_loop l b hl l.length 0 (by omega) (by omega)
  simpa [folkmootref05_In.f] using this
end Go.Proofs.Ytioooiflpabngaa.PAll
end
