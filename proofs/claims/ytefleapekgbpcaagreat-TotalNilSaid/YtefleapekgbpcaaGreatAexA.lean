/- An executor over abstract memory: the plain side (no proof about the program's machine here). -/
import Derived.Calls
namespace Go.Aex

/-! ### trees keyed by numbers -/
inductive T (α : Type) where
  | nil
  | node (l : T α) (v : Option α) (r : T α)

namespace T
variable {α : Type}
def get : T α → Nat → Option α
  | .nil, _ => none
  | .node l v r, n => match Nat.beq n 0 with
    | true => v
    | false => match Nat.beq (n % 2) 1 with
      | true => l.get (n / 2)
      | false => r.get (n / 2 - 1)
def put0 (t : T α) (x : Option α) : T α := match t with
  | .nil => .node .nil x .nil
  | .node l _ r => .node l x r
def left : T α → T α
  | .nil => .nil
  | .node l _ _ => l
def right : T α → T α
  | .nil => .nil
  | .node _ _ r => r
def val : T α → Option α
  | .nil => none
  | .node _ v _ => v
/-- Put, each part reckoned before it is built in. -/
def setF : Nat → T α → Nat → Option α → T α
  | 0, t, _, x => put0 t x
  | f + 1, t, n, x => match Nat.beq n 0 with
    | true => put0 t x
    | false => match Nat.beq (n % 2) 1 with
      | true => match setF f (left t) (n / 2) x with
        | .nil => .nil
        | .node a b c => .node (.node a b c) (val t) (right t)
      | false => match setF f (right t) (n / 2 - 1) x with
        | .nil => .nil
        | .node a b c => .node (left t) (val t) (.node a b c)
def set (t : T α) (n : Nat) (x : α) : T α := setF n t n (some x)

theorem get_put0 (t : T α) (x : Option α) (m : Nat) : (put0 t x).get m = if m = 0 then x else t.get m := by
  cases t <;> cases m <;> (try simp only [put0, get]) <;> (try rfl)
  · rename_i k
    rw [if_neg (by omega)]
    have e : Nat.beq (k + 1) 0 = false := rfl
    rw [e]; dsimp only; split <;> rfl
theorem setF_node (f : Nat) : ∀ (t : T α) (n : Nat) (x : Option α), ∃ l v r, setF f t n x = .node l v r := by
  induction f with
  | zero => intro t n x; cases t <;> exact ⟨_, _, _, rfl⟩
  | succ f ih =>
    intro t n x
    unfold setF
    split
    · cases t <;> exact ⟨_, _, _, rfl⟩
    · split
      · obtain ⟨l, v, r, h⟩ := ih (left t) (n / 2) x
        rw [h]; exact ⟨_, _, _, rfl⟩
      · obtain ⟨l, v, r, h⟩ := ih (right t) (n / 2 - 1) x
        rw [h]; exact ⟨_, _, _, rfl⟩
theorem get_parts (t : T α) (m : Nat) : t.get m = match Nat.beq m 0 with
    | true => val t
    | false => match Nat.beq (m % 2) 1 with
      | true => (left t).get (m / 2)
      | false => (right t).get (m / 2 - 1) := by
  cases t with
  | nil => simp only [get, val, left, right]; (repeat' split) <;> rfl
  | node l v r => rfl
theorem get_setF (f : Nat) : ∀ (t : T α) (n m : Nat) (x : Option α), n ≤ f → (setF f t n x).get m = if m = n then x else t.get m := by
  induction f with
  | zero =>
    intro t n m x h
    obtain rfl : n = 0 := by omega
    simp [setF, get_put0]
  | succ f ih =>
    intro t n m x h
    unfold setF
    split
    · rename_i h0
      obtain rfl : n = 0 := Nat.eq_of_beq_eq_true h0
      rw [get_put0]
    · rename_i h0
      have hn : n ≠ 0 := fun e => by subst e; simp at h0
      split
      · rename_i h1
        have h1' : n % 2 = 1 := Nat.eq_of_beq_eq_true h1
        have hx := fun m => ih (left t) (n / 2) m x (by omega)
        split
        · rename_i hnil
          obtain ⟨l, v, r, hh⟩ := setF_node f (left t) (n / 2) x
          rw [hh] at hnil; cases hnil
        · rename_i a b c hh
          rw [hh] at hx
          simp only [get]
          rw [get_parts t m]
          split
          · rename_i hm
            have := Nat.eq_of_beq_eq_true hm
            rw [if_neg (by omega)]
          · rename_i hm
            have hm0 : m ≠ 0 := fun e => by subst e; simp at hm
            split
            · rename_i hm1
              have hm1' := Nat.eq_of_beq_eq_true hm1
              have := hx (m / 2)
              simp only [get] at this
              rw [this]
              by_cases e : m = n
              · subst e; simp
              · rw [if_neg (by omega), if_neg e]
            · rename_i hm1
              have hm1' : m % 2 ≠ 1 := fun e => by rw [e] at hm1; simp at hm1
              rw [if_neg (by omega)]
      · rename_i h1
        have h1' : n % 2 ≠ 1 := fun e => by rw [e] at h1; simp at h1
        have hx := fun m => ih (right t) (n / 2 - 1) m x (by omega)
        split
        · rename_i hnil
          obtain ⟨l, v, r, hh⟩ := setF_node f (right t) (n / 2 - 1) x
          rw [hh] at hnil; cases hnil
        · rename_i a b c hh
          rw [hh] at hx
          simp only [get]
          rw [get_parts t m]
          split
          · rename_i hm
            have := Nat.eq_of_beq_eq_true hm
            rw [if_neg (by omega)]
          · rename_i hm
            have hm0 : m ≠ 0 := fun e => by subst e; simp at hm
            split
            · rename_i hm1
              have hm1' := Nat.eq_of_beq_eq_true hm1
              rw [if_neg (by omega)]
            · rename_i hm1
              have hm1' : m % 2 ≠ 1 := fun e => by rw [e] at hm1; simp at hm1
              have := hx (m / 2 - 1)
              simp only [get] at this
              rw [this]
              by_cases e : m = n
              · subst e; simp
              · rw [if_neg (by omega), if_neg e]
theorem get_set (t : T α) (n m : Nat) (x : α) : (t.set n x).get m = if m = n then some x else t.get m := get_setF n t n m (some x) (Nat.le_refl _)
end T

/-! ### values, objects, the state -/
/-- A slice's capacity: a number, or all from an element of its row on. -/
inductive ACap where
  | lit (n : Nat)
  | rest (k : Nat)
/-- A value: an address is a row's name and an offset. -/
inductive AV where
  | bool (b : Bool)
  | int (k : IntKind) (n : Int)
  | str (s : List UInt8)
  | ptr (i o : Nat)
  | nilptr
  | slice (i o len : Nat) (cap : ACap)
  | eslice (i o0 o1 k : Nat)
  | nilslice
  | map (i : Nat)
  | nilmap
  | chan (i : Nat)
  | nilchan
  | func (fn : Fn) (first captured : List AV)
  | yield (i : Nat)
  | nilfunc
  | iface (t : TypeId) (v : AV)
  | nilface
  | agg (l : List AV)
  | tuple (l : List AV)
  | raw (v : Value)
  deriving Inhabited

inductive Out where
  | norm
  | exit (id : Nat)
  | ret
inductive LSt where
  | ready
  | busy
  | done (o : Out)
  | over
inductive AObj where
  | dead
  | row (esz : Nat) (cells : List (Option AV))
  | map (es : List (AV × AV × Nat)) (clock : Nat)
  | chan (cap : Nat) (buf : List AV) (sent rcvd : Nat)
  | defd
  | loop (n : Nat) (t : T AV) (params : List Nat) (assign body : Code) (st : LSt)

structure St where
  h : T AObj
  nx : Nat
  rd : List Nat
  wr : List Nat

def M (α : Type) := St → Option (α × St)
def ret {α : Type} (a : α) : M α := fun s => some (a, s)
def bnd {α β : Type} (m : M α) (f : α → M β) : M β := fun s => match m s with
  | none => none
  | some (a, s') => f a s'
def fail {α : Type} : M α := fun _ => none
def ofOpt {α : Type} (o : Option α) : M α := match o with
  | none => fail
  | some a => ret a
def getO (i : Nat) : M AObj := fun s => match s.h.get i with
  | none => none
  | some o => some (o, { s with rd := i :: s.rd })
def setO (i : Nat) (o : AObj) : M Unit := fun s => match s.h.get i with
  | none => none
  | some _ => some ((), { s with h := s.h.set i o, rd := i :: s.rd, wr := i :: s.wr })
def newO (o : AObj) : M Nat := fun s => match s.h.get s.nx with
  | none => some (s.nx, { s with h := s.h.set s.nx o, nx := s.nx + 1 })
  | some _ => none

end Go.Aex
