/- An executor over abstract memory: the plain side (no proof about the program's machine here). -/
import Derived.Calls
namespace Go.Aex

/-! ### trees keyed by numbers -/
inductive D where
  | k0 | k1 | k2 | k3 | k4 | k5 | k6 | k7
  deriving DecidableEq
inductive T (α : Type) where
  | nil
  | node (v : Option α) (a b c d e f g h : T α)
/-- A digit. -/
def digit (n : Nat) : D := match n with
  | 0 => .k0
  | n + 1 => match n with
    | 0 => .k1
    | n + 1 => match n with
      | 0 => .k2
      | n + 1 => match n with
        | 0 => .k3
        | n + 1 => match n with
          | 0 => .k4
          | n + 1 => match n with
            | 0 => .k5
            | n + 1 => match n with
              | 0 => .k6
              | _ + 1 => .k7
/-- A number's way. -/
def pathF : Nat → Nat → List D
  | 0, _ => []
  | f + 1, n => match n with
    | 0 => []
    | m + 1 => digit (m % 8) :: pathF f (m / 8)
namespace T
variable {α : Type}
def getP : List D → T α → Option α
  | [], t => match t with
    | .nil => none
    | .node v _ _ _ _ _ _ _ _ => v
  | k :: p, t => match t with
    | .nil => none
    | .node _ a b c d e f g h => match k with
      | .k0 => getP p a
      | .k1 => getP p b
      | .k2 => getP p c
      | .k3 => getP p d
      | .k4 => getP p e
      | .k5 => getP p f
      | .k6 => getP p g
      | .k7 => getP p h
def get (t : T α) (n : Nat) : Option α := getP (pathF n n) t
/-- The tree is reckoned before it goes on. -/
def strictT {β : Type} (t : T α) (k : T α → β) : β := match t with
  | .nil => k .nil
  | .node v a b c d e f g h => k (.node v a b c d e f g h)
theorem strictT_eq {β : Type} (t : T α) (k : T α → β) : strictT t k = k t := by cases t <;> rfl
/-- Put, nothing left unreckoned. -/
def setP : List D → T α → Option α → T α
  | [], t, x => match t with
    | .nil => .node x .nil .nil .nil .nil .nil .nil .nil .nil
    | .node _ a b c d e f g h => .node x a b c d e f g h
  | k :: p, t, x => match t with
    | .nil => match k with
      | .k0 => strictT (setP p .nil x) fun u => .node none u .nil .nil .nil .nil .nil .nil .nil
      | .k1 => strictT (setP p .nil x) fun u => .node none .nil u .nil .nil .nil .nil .nil .nil
      | .k2 => strictT (setP p .nil x) fun u => .node none .nil .nil u .nil .nil .nil .nil .nil
      | .k3 => strictT (setP p .nil x) fun u => .node none .nil .nil .nil u .nil .nil .nil .nil
      | .k4 => strictT (setP p .nil x) fun u => .node none .nil .nil .nil .nil u .nil .nil .nil
      | .k5 => strictT (setP p .nil x) fun u => .node none .nil .nil .nil .nil .nil u .nil .nil
      | .k6 => strictT (setP p .nil x) fun u => .node none .nil .nil .nil .nil .nil .nil u .nil
      | .k7 => strictT (setP p .nil x) fun u => .node none .nil .nil .nil .nil .nil .nil .nil u
    | .node v a b c d e f g h => match k with
      | .k0 => strictT (setP p a x) fun u => .node v u b c d e f g h
      | .k1 => strictT (setP p b x) fun u => .node v a u c d e f g h
      | .k2 => strictT (setP p c x) fun u => .node v a b u d e f g h
      | .k3 => strictT (setP p d x) fun u => .node v a b c u e f g h
      | .k4 => strictT (setP p e x) fun u => .node v a b c d u f g h
      | .k5 => strictT (setP p f x) fun u => .node v a b c d e u g h
      | .k6 => strictT (setP p g x) fun u => .node v a b c d e f u h
      | .k7 => strictT (setP p h x) fun u => .node v a b c d e f g u
def set (t : T α) (n : Nat) (x : α) : T α := setP (pathF n n) t (some x)
theorem getP_nil (p : List D) : getP p (T.nil : T α) = none := by cases p <;> rfl
theorem get_nil (n : Nat) : (T.nil : T α).get n = none := getP_nil _
theorem get_setP : ∀ (p q : List D) (t : T α) (x : Option α), getP q (setP p t x) = if q = p then x else getP q t
  | [], [], t, x => by cases t <;> rfl
  | [], k :: q, t, x => by
    rw [if_neg (by simp)]
    cases t <;> cases k <;> simp [setP, getP, getP_nil]
  | k :: p, [], t, x => by
    rw [if_neg (by simp)]
    cases t <;> cases k <;> simp [setP, getP, strictT_eq]
  | k :: p, l :: q, t, x => by
    have ih := fun t : T α => get_setP p q t x
    cases t <;> cases k <;> cases l <;> simp [setP, getP, strictT_eq, ih, getP_nil]
theorem digit_inj : ∀ x, x < 8 → ∀ y, y < 8 → digit x = digit y → x = y := by
  intro x hx y hy h
  match x, hx, y, hy with
  | 0, _, 0, _ => first | rfl | (cases h; done)
  | 0, _, 1, _ => first | rfl | (cases h; done)
  | 0, _, 2, _ => first | rfl | (cases h; done)
  | 0, _, 3, _ => first | rfl | (cases h; done)
  | 0, _, 4, _ => first | rfl | (cases h; done)
  | 0, _, 5, _ => first | rfl | (cases h; done)
  | 0, _, 6, _ => first | rfl | (cases h; done)
  | 0, _, 7, _ => first | rfl | (cases h; done)
  | 1, _, 0, _ => first | rfl | (cases h; done)
  | 1, _, 1, _ => first | rfl | (cases h; done)
  | 1, _, 2, _ => first | rfl | (cases h; done)
  | 1, _, 3, _ => first | rfl | (cases h; done)
  | 1, _, 4, _ => first | rfl | (cases h; done)
  | 1, _, 5, _ => first | rfl | (cases h; done)
  | 1, _, 6, _ => first | rfl | (cases h; done)
  | 1, _, 7, _ => first | rfl | (cases h; done)
  | 2, _, 0, _ => first | rfl | (cases h; done)
  | 2, _, 1, _ => first | rfl | (cases h; done)
  | 2, _, 2, _ => first | rfl | (cases h; done)
  | 2, _, 3, _ => first | rfl | (cases h; done)
  | 2, _, 4, _ => first | rfl | (cases h; done)
  | 2, _, 5, _ => first | rfl | (cases h; done)
  | 2, _, 6, _ => first | rfl | (cases h; done)
  | 2, _, 7, _ => first | rfl | (cases h; done)
  | 3, _, 0, _ => first | rfl | (cases h; done)
  | 3, _, 1, _ => first | rfl | (cases h; done)
  | 3, _, 2, _ => first | rfl | (cases h; done)
  | 3, _, 3, _ => first | rfl | (cases h; done)
  | 3, _, 4, _ => first | rfl | (cases h; done)
  | 3, _, 5, _ => first | rfl | (cases h; done)
  | 3, _, 6, _ => first | rfl | (cases h; done)
  | 3, _, 7, _ => first | rfl | (cases h; done)
  | 4, _, 0, _ => first | rfl | (cases h; done)
  | 4, _, 1, _ => first | rfl | (cases h; done)
  | 4, _, 2, _ => first | rfl | (cases h; done)
  | 4, _, 3, _ => first | rfl | (cases h; done)
  | 4, _, 4, _ => first | rfl | (cases h; done)
  | 4, _, 5, _ => first | rfl | (cases h; done)
  | 4, _, 6, _ => first | rfl | (cases h; done)
  | 4, _, 7, _ => first | rfl | (cases h; done)
  | 5, _, 0, _ => first | rfl | (cases h; done)
  | 5, _, 1, _ => first | rfl | (cases h; done)
  | 5, _, 2, _ => first | rfl | (cases h; done)
  | 5, _, 3, _ => first | rfl | (cases h; done)
  | 5, _, 4, _ => first | rfl | (cases h; done)
  | 5, _, 5, _ => first | rfl | (cases h; done)
  | 5, _, 6, _ => first | rfl | (cases h; done)
  | 5, _, 7, _ => first | rfl | (cases h; done)
  | 6, _, 0, _ => first | rfl | (cases h; done)
  | 6, _, 1, _ => first | rfl | (cases h; done)
  | 6, _, 2, _ => first | rfl | (cases h; done)
  | 6, _, 3, _ => first | rfl | (cases h; done)
  | 6, _, 4, _ => first | rfl | (cases h; done)
  | 6, _, 5, _ => first | rfl | (cases h; done)
  | 6, _, 6, _ => first | rfl | (cases h; done)
  | 6, _, 7, _ => first | rfl | (cases h; done)
  | 7, _, 0, _ => first | rfl | (cases h; done)
  | 7, _, 1, _ => first | rfl | (cases h; done)
  | 7, _, 2, _ => first | rfl | (cases h; done)
  | 7, _, 3, _ => first | rfl | (cases h; done)
  | 7, _, 4, _ => first | rfl | (cases h; done)
  | 7, _, 5, _ => first | rfl | (cases h; done)
  | 7, _, 6, _ => first | rfl | (cases h; done)
  | 7, _, 7, _ => first | rfl | (cases h; done)
theorem path_inj : ∀ (f g n m : Nat), n ≤ f → m ≤ g → pathF f n = pathF g m → n = m
  | 0, g, n, m, hn, hm, h => by
    obtain rfl : n = 0 := by omega
    cases g with
    | zero => omega
    | succ g => cases m with
      | zero => rfl
      | succ m => simp [pathF] at h
  | f + 1, g, n, m, hn, hm, h => by
    cases n with
    | zero =>
      cases g with
      | zero => omega
      | succ g => cases m with
        | zero => rfl
        | succ m => simp [pathF] at h
    | succ n =>
      cases g with
      | zero => simp [pathF] at h
      | succ g => cases m with
        | zero => simp [pathF] at h
        | succ m =>
          simp only [pathF, List.cons.injEq] at h
          have h1 := digit_inj _ (Nat.mod_lt _ (by decide)) _ (Nat.mod_lt _ (by decide)) h.1
          have h2 := path_inj f g (n / 8) (m / 8) (by omega) (by omega) h.2
          omega
theorem get_set (t : T α) (n m : Nat) (x : α) : (t.set n x).get m = if m = n then some x else t.get m := by
  unfold set get
  rw [get_setP]
  by_cases e : m = n
  · subst e; rw [if_pos rfl, if_pos rfl]
  · rw [if_neg (fun h => e (path_inj _ _ _ _ (Nat.le_refl _) (Nat.le_refl _) h)), if_neg e]
end T

/-! ### values, objects, the state -/
/-- A slice's capacity: a number, or all from an element of its row on. -/
inductive ACap where
  | lit (n : Nat)
  | rest (k : Nat)
/-- A value: an address is a row's name and an offset. -/
inductive AV where
  | bool (b : Bool)
  | int (k : IntKind) (n : Int)
  | str (s : List UInt8)
  | ptr (i o : Nat)
  | nilptr
  | slice (i o len : Nat) (cap : ACap)
  | eslice (i o0 o1 k : Nat)
  | nilslice
  | map (i : Nat)
  | nilmap
  | chan (i : Nat)
  | nilchan
  | func (fn : Fn) (first captured : List AV)
  | yield (i : Nat)
  | nilfunc
  | iface (t : TypeId) (v : AV)
  | nilface
  | agg (l : List AV)
  | tuple (l : List AV)
  | raw (v : Value)
  deriving Inhabited

inductive Out where
  | norm
  | exit (id : Nat)
  | ret
inductive LSt where
  | ready
  | busy
  | done (o : Out)
  | over
inductive AObj where
  | dead
  | row (esz : Nat) (cells : List (Option AV))
  | map (es : List (AV × AV × Nat)) (clock : Nat)
  | chan (cap : Nat) (buf : List AV) (sent rcvd : Nat)
  | defd
  | loop (n : Nat) (t : T AV) (params : List Nat) (assign body : Code) (st : LSt)

/-- A set of names, as bits. -/
abbrev Ks := Nat
instance : Membership Nat Ks := ⟨fun m k => Nat.testBit m k = true⟩
instance (k : Nat) (m : Ks) : Decidable (k ∈ m) := inferInstanceAs (Decidable (Nat.testBit m k = true))
namespace Ks
def emp : Ks := (0 : Nat)
def ins (k : Nat) (m : Ks) : Ks := Nat.lor m (Nat.shiftLeft 1 k)
def uni (a b : Ks) : Ks := Nat.lor a b
theorem mem_iff {k : Nat} {m : Ks} : k ∈ m ↔ Nat.testBit m k = true := Iff.rfl
theorem not_mem_emp {k : Nat} : ¬ k ∈ emp := by show ¬ Nat.testBit 0 k = true; simp
theorem bit_ins (j k m : Nat) : Nat.testBit (Nat.lor m (Nat.shiftLeft 1 k)) j = true ↔ j = k ∨ Nat.testBit m j = true := by
  show Nat.testBit (m ||| (1 <<< k)) j = true ↔ _
  rw [Nat.testBit_or, Nat.testBit_shiftLeft, Bool.or_eq_true, Bool.and_eq_true, decide_eq_true_eq]
  constructor
  · rintro (h | ⟨h1, h2⟩)
    · exact .inr h
    · left
      by_cases e : j - k = 0
      · omega
      · obtain ⟨d, hd⟩ : ∃ d, j - k = d + 1 := ⟨j - k - 1, by omega⟩
        rw [hd, Nat.testBit_succ] at h2; simp at h2
  · rintro (rfl | h)
    · exact .inr ⟨Nat.le_refl _, by simp⟩
    · exact .inl h
theorem mem_ins {j k : Nat} {m : Ks} : j ∈ ins k m ↔ j = k ∨ j ∈ m := bit_ins j k m
theorem mem_ins_of {j k : Nat} {m : Ks} (h : j ∈ m) : j ∈ ins k m := mem_ins.2 (.inr h)
theorem mem_ins_self {k : Nat} {m : Ks} : k ∈ ins k m := mem_ins.2 (.inl rfl)
theorem bit_uni (j a b : Nat) : Nat.testBit (Nat.lor a b) j = true ↔ Nat.testBit a j = true ∨ Nat.testBit b j = true := by
  show Nat.testBit (a ||| b) j = true ↔ _
  rw [Nat.testBit_or, Bool.or_eq_true]
theorem mem_uni {j : Nat} {a b : Ks} : j ∈ uni a b ↔ j ∈ a ∨ j ∈ b := bit_uni j a b
theorem mem_uni_left {j : Nat} {a b : Ks} (h : j ∈ a) : j ∈ uni a b := mem_uni.2 (.inl h)
theorem mem_uni_right {j : Nat} {a b : Ks} (h : j ∈ b) : j ∈ uni a b := mem_uni.2 (.inr h)
def strictB {β : Type} (n : Nat) (f : Nat → β) : β := match n with
  | 0 => f 0
  | k + 1 => f (k + 1)
theorem strictB_eq {β : Type} (n : Nat) (f : Nat → β) : strictB n f = f n := by cases n <;> rfl
def strict {β : Type} (m : Ks) (f : Ks → β) : β := strictB m f
theorem strict_eq {β : Type} (m : Ks) (f : Ks → β) : strict m f = f m := strictB_eq m f
end Ks
structure St where
  h : T AObj
  nx : Nat
  rd : Ks
  wr : Ks

abbrev M (α : Type) := St → Option (α × St)
def ret {α : Type} (a : α) : M α := fun s => some (a, s)
def bnd {α β : Type} (m : M α) (f : α → M β) : M β := fun s => match m s with
  | none => none
  | some (a, s') => f a s'
def fail {α : Type} : M α := fun _ => none
def ofOpt {α : Type} (o : Option α) : M α := match o with
  | none => fail
  | some a => ret a
def getO (i : Nat) : M AObj := fun s => match s with
  | ⟨h, nx, rd, wr⟩ => match h.get i with
    | none => none
    | some o => Ks.strict (Ks.ins i rd) fun rd' => some (o, ⟨h, nx, rd', wr⟩)
def setO (i : Nat) (o : AObj) : M Unit := fun s => match s with
  | ⟨h, nx, rd, wr⟩ => match h.get i with
    | none => none
    | some _ => T.strictT (h.set i o) fun h' => Ks.strict (Ks.ins i rd) fun rd' => Ks.strict (Ks.ins i wr) fun wr' => some ((), ⟨h', nx, rd', wr'⟩)
def newO (o : AObj) : M Nat := fun s => match s with
  | ⟨h, nx, rd, wr⟩ => match h.get nx with
    | none => T.strictT (h.set nx o) fun h' => match nx with
      | 0 => some (0, ⟨h', 1, rd, wr⟩)
      | k + 1 => some (k + 1, ⟨h', k + 2, rd, wr⟩)
    | some _ => none
theorem getO_eq (i : Nat) : getO i = fun s => match s.h.get i with
  | none => none
  | some o => some (o, { s with rd := Ks.ins i s.rd }) := by
  funext s
  simp only [getO, Ks.strict_eq]
theorem setO_eq (i : Nat) (o : AObj) : setO i o = fun s => match s.h.get i with
  | none => none
  | some _ => some ((), { s with h := s.h.set i o, rd := Ks.ins i s.rd, wr := Ks.ins i s.wr }) := by
  funext s
  simp only [setO, T.strictT_eq, Ks.strict_eq]
theorem newO_eq (o : AObj) : newO o = fun s => match s.h.get s.nx with
  | none => some (s.nx, { s with h := s.h.set s.nx o, nx := s.nx + 1 })
  | some _ => none := by
  funext s
  obtain ⟨h, nx, rd, wr⟩ := s
  simp only [newO, T.strictT_eq]
  cases nx <;> rfl

end Go.Aex
