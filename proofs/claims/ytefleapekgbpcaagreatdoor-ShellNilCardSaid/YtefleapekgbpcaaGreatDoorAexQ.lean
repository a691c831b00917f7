/- The machine's steps on a frame, a round's frame too. -/
import Derived.Test.YtefleapekgbpcaaGreatDoorAexP
set_option linter.unusedVariables false
set_option linter.unusedSimpArgs false
namespace Go.Aex
open Go.RowKit
def fat (b : Frame) (a : Act) (todo : List Item) : Frame := { fn := b.fn, tmps := a.tmps, todo, defers := a.defers, mode := .run, kind := b.kind, roundOf := b.roundOf }
section
variable {P : Program} {b : Frame} {a : Act} {k : List Item} {cs : List Frame} {w : World} {ops : Array Oper}
theorem fat_eval (x : Operand) (todo : List Item) : (fat b a todo).eval x = a.eval x := by cases x <;> rfl
theorem fat_eval' (todo : List Item) : (fat b a todo).eval = a.eval := funext fun x => fat_eval x todo
theorem f_skip : step P (lone (fat b a (.code .skip :: k)) cs w) = .next (lone (fat b a k) cs w) := step_lone_go (by simp [stepG, stepG.exec, fat])
theorem f_label {l : Nat} : step P (lone (fat b a (.code (.label l) :: k)) cs w) = .next (lone (fat b a k) cs w) := step_lone_go (by simp [stepG, stepG.exec, fat])
theorem f_inBlock {id : Nat} : step P (lone (fat b a (.inBlock id :: k)) cs w) = .next (lone (fat b a k) cs w) := step_lone_go (by simp [stepG, stepG.exec, fat])
theorem f_seq {x y : Code} : step P (lone (fat b a (.code (.seq x y) :: k)) cs w) = .next (lone (fat b a (.code x :: .code y :: k)) cs w) := step_lone_go (by simp [stepG, stepG.exec, fat])
theorem f_cond {c : Operand} {x y : Code} {t : Bool} (h : a.eval c = .bool t) : step P (lone (fat b a (.code (.cond c x y) :: k)) cs w) = .next (lone (fat b a (.code (if t then x else y) :: k)) cs w) :=
  step_lone_go (by
    have := fat_eval (b := b) (a := a) c (.code (.cond c x y) :: k)
    simp only [fat] at this
    simp [stepG, stepG.exec, fat, this, h])
theorem f_block {id : Nat} {c : Code} : step P (lone (fat b a (.code (.block id c) :: k)) cs w) = .next (lone (fat b a (.code c :: .inBlock id :: k)) cs w) := step_lone_go (by simp [stepG, stepG.exec, fat])
theorem f_loop {c : Code} : step P (lone (fat b a (.code (.loop c) :: k)) cs w) = .next (lone (fat b a (.code c :: .inLoop c :: k)) cs w) := step_lone_go (by simp [stepG, stepG.exec, fat])
theorem f_inLoop {c : Code} : step P (lone (fat b a (.inLoop c :: k)) cs w) = .next (lone (fat b a (.code c :: .inLoop c :: k)) cs w) := step_lone_go (by simp [stepG, stepG.exec, fat])
theorem f_exit {id : Nat} {k' : List Item} (h : exitTo id k = some k') : step P (lone (fat b a (.code (.exit id) :: k)) cs w) = .next (lone (fat b a k') cs w) := step_lone_go (by simp [stepG, stepG.exec, fat, h])
theorem f_region {id : Nat} : step P (lone (fat b a (.code (.region id ops false) :: k)) cs w) = .next (lone (fat b a (.inRegion ops (List.range ops.size) :: k)) cs w) := step_lone_go (by simp [stepG, stepG.exec, fat])
theorem f_draw {id : Nat} : step P (lone (fat b a (.code (.region id ops true) :: k)) cs w) =
    .next (lone (fat b a (.inRegion ops (Region.schedule (P.follows .mixedOrders) ops (w.tape w.drawn (.order b.fn id))) :: k)) cs w.drew) := step_lone_go (by simp [stepG, stepG.exec, fat, choose, Sem.run, Question.forced, Question.cut])
theorem f_region_end : step P (lone (fat b a (.inRegion ops [] :: k)) cs w) = .next (lone (fat b a k) cs w) := step_lone_go (by simp [stepG, stepG.exec, fat])
theorem fat_finish (i : Nat) (rest : List Nat) (v : Value) : (fat b a (.inRegion ops (i :: rest) :: k)).finish v = fat b (a.put ((ops[i]?).bind (·.dst)) v) (.inRegion ops rest :: k) := by
  cases h : (ops[i]?).bind (·.dst) <;> simp [Frame.finish, fat, Act.put, h]
theorem f_op_skip {i : Nat} {rest : List Nat} (h : ((ops[i]?).map (Region.wanted · (yielded ops a.tmps))).getD false = false) :
    step P (lone (fat b a (.inRegion ops (i :: rest) :: k)) cs w) = .next (lone (fat b (a.put ((ops[i]?).bind (·.dst)) undef) (.inRegion ops rest :: k)) cs w) := by
  rw [← fat_finish]
  exact step_lone_go (by
    have h' := h
    simp only [fat] at *
    simp [stepG, stepG.exec, h'])
def isDefer : Op → Bool
  | .defer _ => true
  | _ => false
theorem f_op {i : Nat} {rest : List Nat} {o : Oper} (ho : ops[i]? = some o) (hw : Region.wanted o (yielded ops a.tmps) = true) (hd : isDefer o.op = false) :
    stepG P true { frame := fat b a (.inRegion ops (i :: rest) :: k), callers := cs, status := .running, dying := none } w =
      stepG.apply P true (fat b a (.inRegion ops (i :: rest) :: k)) cs none (execOp a.eval o) w := by
  have he := fat_eval' (b := b) (a := a) (.inRegion ops (i :: rest) :: k)
  simp only [fat] at he
  cases hro : b.roundOf with
  | none =>
    rw [hro] at he
    simp [stepG, stepG.exec, stepG.oper, Frame.oper?, fat, ho, hw, he, hro]
  | some l =>
    rw [hro] at he
    cases hop : o.op <;> first
      | (simp [isDefer, hop] at hd; done)
      | simp [stepG, stepG.exec, stepG.oper, Frame.oper?, fat, ho, hw, he, hro, hop]
theorem f_op_value {i : Nat} {rest : List Nat} {o : Oper} {V : Value} {w' : World} (ho : ops[i]? = some o) (hw : Region.wanted o (yielded ops a.tmps) = true) (hd : isDefer o.op = false)
    (hr : (execOp a.eval o).run P w = .ok (.value V) w' ∨ ((execOp a.eval o).run P w = .ok .skip w' ∧ V = undef)) :
    step P (lone (fat b a (.inRegion ops (i :: rest) :: k)) cs w) = .next (lone (fat b (a.put o.dst V) (.inRegion ops rest :: k)) cs w') := by
  have hfin : ∀ v, (fat b a (.inRegion ops (i :: rest) :: k)).finish v = fat b (a.put o.dst v) (.inRegion ops rest :: k) := by
    intro v; rw [fat_finish, ho]; rfl
  refine step_lone_go ?_
  rw [f_op ho hw hd, ← hfin]
  rcases hr with hr | ⟨hr, rfl⟩ <;> simp [stepG.apply, hr]
theorem f_op_enter {i : Nat} {rest : List Nat} {o : Oper} {f : FuncId} {args : Array Value} {w' : World} (ho : ops[i]? = some o) (hw : Region.wanted o (yielded ops a.tmps) = true) (hd : isDefer o.op = false)
    (hr : (execOp a.eval o).run P w = .ok (.enter f args) w') :
    step P (lone (fat b a (.inRegion ops (i :: rest) :: k)) cs w) = .next (lone (Frame.enter P f args .normal) (fat b a (.inRegion ops (i :: rest) :: k) :: cs) w') := by
  refine step_lone_go ?_
  rw [f_op ho hw hd]
  simp [stepG.apply, hr, fat]
theorem f_op_round {i : Nat} {rest : List Nat} {o : Oper} {l : Nat} {f : FuncId} {tm : Array Value} {as body : Code} {w' : World} (ho : ops[i]? = some o) (hw : Region.wanted o (yielded ops a.tmps) = true) (hd : isDefer o.op = false)
    (hr : (execOp a.eval o).run P w = .ok (.round l f tm as body) w') :
    step P (lone (fat b a (.inRegion ops (i :: rest) :: k)) cs w) = .next (lone (Frame.round l f tm as body .normal) (fat b a (.inRegion ops (i :: rest) :: k) :: cs) w') := by
  refine step_lone_go ?_
  rw [f_op ho hw hd]
  simp [stepG.apply, hr, fat]
end
end Go.Aex
