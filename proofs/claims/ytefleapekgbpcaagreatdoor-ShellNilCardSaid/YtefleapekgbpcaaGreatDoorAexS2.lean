/- A call whose run is on record: from what it reads to what it leaves. -/
import Derived.Test.YtefleapekgbpcaaGreatDoorAexZ
set_option linter.unusedVariables false
set_option linter.unusedSimpArgs false
namespace Go.Aex
open Go.RowKit

/-! ### values and objects alike -/
def allB {α : Type} (f : α → α → Bool) : List α → List α → Bool
  | [], y => match y with
    | [] => true
    | _ :: _ => false
  | a :: x, y => match y with
    | [] => false
    | b :: y => match f a b with
      | true => allB f x y
      | false => false
def optB {α : Type} (f : α → α → Bool) (x y : Option α) : Bool := match x with
  | none => match y with
    | none => true
    | some _ => false
  | some a => match y with
    | none => false
    | some b => f a b
def boolB (a b : Bool) : Bool := match a with
  | true => b
  | false => match b with
    | true => false
    | false => true
def fnB (a b : Fn) : Bool := match a with
  | .func x => match b with
    | .func y => Nat.beq x y
    | _ => false
  | _ => false
def capB (a b : ACap) : Bool := match a with
  | .lit x => match b with
    | .lit y => Nat.beq x y
    | _ => false
  | .rest x => match b with
    | .rest y => Nat.beq x y
    | _ => false
def andB (a b : Bool) : Bool := match a with
  | true => b
  | false => false
def valB : Nat → AV → AV → Bool
  | 0, _, _ => false
  | d + 1, a, b => match a with
    | .bool x => match b with
      | .bool y => boolB x y
      | _ => false
    | .int k n => match b with
      | .int l m => andB (beqK k l) (beqI n m)
      | _ => false
    | .str x => match b with
      | .str y => beqB x y
      | _ => false
    | .ptr i o => match b with
      | .ptr j p => andB (Nat.beq i j) (Nat.beq o p)
      | _ => false
    | .nilptr => match b with
      | .nilptr => true
      | _ => false
    | .slice i o n c => match b with
      | .slice j p m e => andB (Nat.beq i j) (andB (Nat.beq o p) (andB (Nat.beq n m) (capB c e)))
      | _ => false
    | .eslice i o n c => match b with
      | .eslice j p m e => andB (Nat.beq i j) (andB (Nat.beq o p) (andB (Nat.beq n m) (Nat.beq c e)))
      | _ => false
    | .nilslice => match b with
      | .nilslice => true
      | _ => false
    | .map i => match b with
      | .map j => Nat.beq i j
      | _ => false
    | .nilmap => match b with
      | .nilmap => true
      | _ => false
    | .chan i => match b with
      | .chan j => Nat.beq i j
      | _ => false
    | .nilchan => match b with
      | .nilchan => true
      | _ => false
    | .func f x y => match b with
      | .func g u v => andB (fnB f g) (andB (allB (valB d) x u) (allB (valB d) y v))
      | _ => false
    | .yield i => match b with
      | .yield j => Nat.beq i j
      | _ => false
    | .nilfunc => match b with
      | .nilfunc => true
      | _ => false
    | .iface t x => match b with
      | .iface u y => andB (Nat.beq t u) (valB d x y)
      | _ => false
    | .nilface => match b with
      | .nilface => true
      | _ => false
    | .agg x => match b with
      | .agg y => allB (valB d) x y
      | _ => false
    | .tuple x => match b with
      | .tuple y => allB (valB d) x y
      | _ => false
    | .raw _ => false
def entB1 (a b : AV × AV × Nat) : Bool := match a, b with
  | (k, v, n), (l, u, m) => andB (valB 20 k l) (andB (valB 20 v u) (Nat.beq n m))
def objB (a b : AObj) : Bool := match a with
  | .dead => match b with
    | .dead => true
    | _ => false
  | .row e x => match b with
    | .row f y => andB (Nat.beq e f) (allB (optB (valB 20)) x y)
    | _ => false
  | .map x c => match b with
    | .map y e => andB (Nat.beq c e) (allB entB1 x y)
    | _ => false
  | .chan c x s r => match b with
    | .chan e y t u => andB (Nat.beq c e) (andB (Nat.beq s t) (andB (Nat.beq r u) (allB (valB 20) x y)))
    | _ => false
  | .defd => match b with
    | .defd => true
    | _ => false
  | .loop .. => false
theorem andB_true {a b : Bool} (h : andB a b = true) : a = true ∧ b = true := by cases a <;> cases b <;> simp_all [andB]
theorem allB_eq {α : Type} {f : α → α → Bool} (hf : ∀ a b, f a b = true → a = b) : ∀ {x y : List α}, allB f x y = true → x = y
  | [], [], _ => rfl
  | [], _ :: _, h => by simp [allB] at h
  | _ :: _, [], h => by simp [allB] at h
  | a :: x, b :: y, h => by
    simp only [allB] at h
    split at h
    · rename_i e; rw [hf a b e, allB_eq hf h]
    · cases h
theorem optB_eq {α : Type} {f : α → α → Bool} (hf : ∀ a b, f a b = true → a = b) {x y : Option α} (h : optB f x y = true) : x = y := by
  cases x <;> cases y <;> simp only [optB] at h
  · rfl
  · cases h
  · cases h
  · rw [hf _ _ h]
theorem boolB_eq {a b : Bool} (h : boolB a b = true) : a = b := by cases a <;> cases b <;> simp_all [boolB]
theorem fnB_eq {a b : Fn} (h : fnB a b = true) : a = b := by
  unfold fnB at h
  split at h
  · split at h
    · rw [beq_true h]
    · cases h
  · cases h
theorem capB_eq {a b : ACap} (h : capB a b = true) : a = b := by
  cases a <;> cases b <;> simp only [capB] at h <;> first | (rw [beq_true h]; done) | cases h
theorem valB_eq : ∀ {d : Nat} {a b : AV}, valB d a b = true → a = b
  | 0, a, b, h => by simp [valB] at h
  | d + 1, a, b, h => by
    have ih : ∀ a b, valB d a b = true → a = b := fun a b => valB_eq
    cases a <;> cases b <;> simp only [valB] at h <;> first
      | rfl
      | (rw [boolB_eq h]; done)
      | (rw [beq_true h]; done)
      | (rw [allB_eq ih h]; done)
      | (rw [beqB_eq, beq_iff_eq] at h; rw [h]; done)
      | (obtain ⟨h1, h2⟩ := andB_true h; rw [beqI_eq, beq_iff_eq] at h2; rw [beqK_eq h1, h2]; done)
      | (obtain ⟨h1, h2⟩ := andB_true h; rw [beq_true h1, beq_true h2]; done)
      | (obtain ⟨h1, h2⟩ := andB_true h; rw [beq_true h1, ih _ _ h2]; done)
      | (obtain ⟨h1, h2⟩ := andB_true h; obtain ⟨h2, h3⟩ := andB_true h2; rw [fnB_eq h1, allB_eq ih h2, allB_eq ih h3]; done)
      | (obtain ⟨h1, h2⟩ := andB_true h; obtain ⟨h2, h3⟩ := andB_true h2; obtain ⟨h3, h4⟩ := andB_true h3; rw [beq_true h1, beq_true h2, beq_true h3, capB_eq h4]; done)
      | (obtain ⟨h1, h2⟩ := andB_true h; obtain ⟨h2, h3⟩ := andB_true h2; obtain ⟨h3, h4⟩ := andB_true h3; rw [beq_true h1, beq_true h2, beq_true h3, beq_true h4]; done)
      | cases h
theorem entB1_eq {a b : AV × AV × Nat} (h : entB1 a b = true) : a = b := by
  obtain ⟨k, v, n⟩ := a
  obtain ⟨l, u, m⟩ := b
  simp only [entB1] at h
  obtain ⟨h1, h2⟩ := andB_true h
  obtain ⟨h2, h3⟩ := andB_true h2
  rw [valB_eq h1, valB_eq h2, beq_true h3]
theorem objB_eq {a b : AObj} (h : objB a b = true) : a = b := by
  cases a <;> cases b <;> simp only [objB] at h <;> first
    | rfl
    | (obtain ⟨h1, h2⟩ := andB_true h; rw [beq_true h1, allB_eq (fun a b => optB_eq (fun a b => valB_eq)) h2]; done)
    | (obtain ⟨h1, h2⟩ := andB_true h; rw [beq_true h1, allB_eq (fun a b => entB1_eq) h2]; done)
    | (obtain ⟨h1, h2⟩ := andB_true h; obtain ⟨h2, h3⟩ := andB_true h2; obtain ⟨h3, h4⟩ := andB_true h3; rw [beq_true h1, beq_true h2, beq_true h3, allB_eq (fun a b => valB_eq) h4]; done)
    | cases h

/-! ### records -/
structure Rc where
  args : List AV
  nx : Nat
  pre : List (Nat × AObj)
  v : AV
  nx' : Nat
  post : List (Nat × AObj)
def chkN (n : Nat) : M Unit := fun s => match Nat.beq s.nx n with
  | true => some ((), s)
  | false => none
def chkL : List (Nat × AObj) → M Unit
  | [] => ret ()
  | x :: l => match x with
    | (k, o) => bnd (getO k) fun o' => match objB o' o with
      | true => chkL l
      | false => fail
def isDead (o : AObj) : Bool := match o with
  | .dead => true
  | _ => false
/-- Names from 'a' on, so many, are free. -/
def freeN (a : Nat) : Nat → T AObj → Bool
  | 0, _ => true
  | n + 1, t => match t.get (Nat.add a n) with
    | none => freeN a n t
    | some _ => false
def inR (a b k : Nat) : Bool := andB (Nat.ble a k) (Nat.blt k b)
/-- What a call's own names hold in the end, where they live. -/
def layT (a b : Nat) : List (Nat × AObj) → T AObj → T AObj
  | [], t => t
  | x :: l, t => match x with
    | (k, o) => match inR a b k with
      | false => layT a b l t
      | true => match isDead o with
        | true => layT a b l t
        | false => T.strictT (t.set k o) fun t => layT a b l t
def skipL (n : Nat) (l : List (Nat × AObj)) : M Unit := fun s => match freeN s.nx n s.h with
  | false => none
  | true => T.strictT (layT s.nx (Nat.add s.nx n) l s.h) fun t => Ks.strict (Nat.add s.nx n) fun m => some ((), ⟨t, m, s.rd, s.wr⟩)
def putL (a b : Nat) : List (Nat × AObj) → M Unit
  | [] => ret ()
  | x :: l => match x with
    | (k, o) => match inR a b k with
      | true => putL a b l
      | false => bnd (setO k o) fun _ => putL a b l
def recM (r : Rc) (args : List AV) : M AV := match allB (valB 20) args r.args with
  | false => fail
  | true => bnd (chkN r.nx) fun _ => bnd (chkL r.pre) fun _ => bnd (skipL (r.nx' - r.nx) r.post) fun _ => bnd (putL r.nx r.nx' r.post) fun _ => ret r.v
def litT : List (Nat × AObj) → T AObj
  | [] => .nil
  | x :: l => match x with
    | (k, o) => T.strictT (litT l) fun t => t.set k o
def keysK : List (Nat × AObj) → Ks
  | [] => Ks.emp
  | x :: l => match x with
    | (k, _) => Ks.strict (keysK l) fun m => Ks.ins k m
def subK (a b : Ks) : Bool := Nat.beq (Nat.lor a b) b
def postB (K : Ks) (nx nx' : Nat) (t : T AObj) : List (Nat × AObj) → Bool
  | [] => true
  | x :: l => match x with
    | (k, o) => match hasK k K, andB (Nat.ble nx k) (Nat.blt k nx') with
      | false, false => false
      | _, _ => match isDead o with
        | true => postB K nx nx' t l
        | false => match t.get k with
          | none => false
          | some o' => match objB o' o with
            | true => postB K nx nx' t l
            | false => false
/-- What a run left is what the record says. -/
def recOk (r : Rc) (o : Option (AV × St)) : Bool := match o with
  | none => false
  | some (v, s) => match s with
    | ⟨h, nx, rd, wr⟩ => Ks.strict (keysK r.pre) fun K => Ks.strict (keysK r.post) fun W => andB (valB 20 v r.v) (andB (Nat.beq nx r.nx') (andB (subK rd K) (andB (subK wr W) (andB (Nat.ble r.nx r.nx') (postB K r.nx r.nx' h r.post)))))
def startS (r : Rc) : St := ⟨litT r.pre, r.nx, Ks.emp, Ks.emp⟩

theorem subK_mem {a b : Ks} (h : subK a b = true) {k : Nat} (hk : k ∈ a) : k ∈ b := by
  have h := beq_true h
  have : k ∈ Ks.uni a b := Ks.mem_uni_left hk
  unfold Ks.uni at this
  rwa [h] at this
theorem keysK_mem : ∀ {l : List (Nat × AObj)} {k : Nat}, k ∈ keysK l → ∃ o, (k, o) ∈ l
  | [], k, h => absurd h Ks.not_mem_emp
  | (j, o) :: l, k, h => by
    simp only [keysK, Ks.strict_eq] at h
    rcases Ks.mem_ins.1 h with rfl | h
    · exact ⟨o, List.mem_cons_self ..⟩
    · obtain ⟨o', h'⟩ := keysK_mem h; exact ⟨o', List.mem_cons_of_mem _ h'⟩
theorem litT_get (h : T AObj) : ∀ {l : List (Nat × AObj)}, (∀ x ∈ l, h.get x.1 = some x.2) → (∀ k o, (litT l).get k = some o → h.get k = some o) ∧ ∀ x ∈ l, (litT l).get x.1 ≠ none
  | [], _ => ⟨fun k o e => (by rw [litT, T.get_nil] at e; cases e), fun x hx => nomatch hx⟩
  | (j, o) :: l, hh => by
    obtain ⟨h1, h2⟩ := litT_get h fun x hx => hh x (List.mem_cons_of_mem _ hx)
    have hj := hh (j, o) (List.mem_cons_self ..)
    simp only [litT, T.strictT_eq]
    refine ⟨fun k o' e => ?_, fun x hx => ?_⟩
    · rw [T.get_set] at e
      split at e
      · rename_i ek; subst ek; rw [← e]; exact hj
      · exact h1 k o' e
    · rw [T.get_set]
      split
      · simp
      · rcases List.mem_cons.1 hx with rfl | hx
        · rename_i e; exact absurd rfl e
        · exact h2 x hx
theorem chkL_some : ∀ {l : List (Nat × AObj)} {s s' : St} {u : Unit}, Run (chkL l) s u s' → Reads s s' ∧ ∀ x ∈ l, s.h.get x.1 = some x.2
  | [], s, s', u, h => by obtain ⟨_, rfl⟩ := ret_some h; exact ⟨Reads.refl _, fun x hx => nomatch hx⟩
  | (k, o) :: l, s, s', u, h => by
    obtain ⟨o', s1, h1, h2⟩ := bnd_some h
    obtain ⟨ho, hr⟩ := getO_some h1
    split at h2
    · rename_i e
      obtain ⟨hr2, h3⟩ := chkL_some h2
      refine ⟨hr.trans hr2, fun x hx => ?_⟩
      rcases List.mem_cons.1 hx with rfl | hx
      · simp only; rw [ho, objB_eq e]
      · rw [← hr.1]; exact h3 x hx
    · exact (fail_some h2).elim
theorem inR_true {a b k : Nat} (h : inR a b k = true) : a ≤ k ∧ k < b := by
  obtain ⟨h1, h2⟩ := andB_true h
  exact ⟨ble_true h1, blt_true h2⟩
theorem inR_false {a b k : Nat} (h : inR a b k = false) : ¬(a ≤ k ∧ k < b) := by
  rintro ⟨h1, h2⟩
  have e1 : Nat.ble a k = true := Nat.ble_eq_true_of_le h1
  have e2 : Nat.blt k b = true := Nat.ble_eq_true_of_le h2
  simp [inR, e1, e2, andB] at h
theorem freeN_iff {a : Nat} : ∀ {n : Nat} {t : T AObj}, freeN a n t = true ↔ ∀ k, a ≤ k → k < a + n → t.get k = none
  | 0, t => by simp only [freeN]; exact ⟨fun _ k h1 h2 => by omega, fun _ => trivial⟩
  | n + 1, t => by
    simp only [freeN]
    constructor
    · intro h k h1 h2
      split at h
      · rename_i e
        by_cases hk : k = a + n
        · subst hk; exact e
        · exact freeN_iff.1 h k h1 (by omega)
      · cases h
    · intro h
      have e : t.get (Nat.add a n) = none := h (a + n) (by omega) (by omega)
      rw [e]
      exact freeN_iff.2 fun k h1 h2 => h k h1 (by omega)
theorem layT_out {a b : Nat} : ∀ {l : List (Nat × AObj)} {t : T AObj} {k : Nat}, ¬(a ≤ k ∧ k < b) → (layT a b l t).get k = t.get k
  | [], t, k, _ => rfl
  | (j, o) :: l, t, k, h => by
    simp only [layT]
    split
    · exact layT_out h
    · rename_i e
      split
      · exact layT_out h
      · rw [T.strictT_eq, layT_out h, T.get_set, if_neg]
        rintro rfl
        exact h (inR_true e)
theorem layT_in {a b : Nat} : ∀ {l : List (Nat × AObj)} {t : T AObj} {k : Nat} {o : AObj}, (layT a b l t).get k = some o → (k, o) ∈ l ∨ t.get k = some o
  | [], t, k, o, h => .inr h
  | (j, x) :: l, t, k, o, h => by
    simp only [layT] at h
    split at h
    · exact (layT_in h).imp (List.mem_cons_of_mem _) id
    · split at h
      · exact (layT_in h).imp (List.mem_cons_of_mem _) id
      · rw [T.strictT_eq] at h
        rcases layT_in h with h1 | h1
        · exact .inl (List.mem_cons_of_mem _ h1)
        · clear h
          rw [T.get_set] at h1
          split at h1
          · rename_i ek; subst ek; cases h1; exact .inl (List.mem_cons_self ..)
          · exact .inr h1
theorem layT_congr {a b : Nat} : ∀ {l : List (Nat × AObj)} {t u : T AObj} {k : Nat}, t.get k = u.get k → (layT a b l t).get k = (layT a b l u).get k
  | [], t, u, k, h => h
  | (j, x) :: l, t, u, k, h => by
    simp only [layT]
    split
    · exact layT_congr h
    · split
      · exact layT_congr h
      · simp only [T.strictT_eq]
        refine layT_congr ?_
        rw [T.get_set, T.get_set]
        split
        · rfl
        · exact h
theorem layT_keep {a b : Nat} : ∀ {l : List (Nat × AObj)} {t : T AObj} {k : Nat}, t.get k ≠ none → (layT a b l t).get k ≠ none
  | [], t, k, h => h
  | (j, x) :: l, t, k, h => by
    simp only [layT]
    split
    · exact layT_keep h
    · split
      · exact layT_keep h
      · rw [T.strictT_eq]
        refine layT_keep ?_
        rw [T.get_set]
        split
        · simp
        · exact h
theorem skipL_some {n : Nat} {l : List (Nat × AObj)} {s s' : St} {u : Unit} (h : Run (skipL n l) s u s') : s' = ⟨layT s.nx (s.nx + n) l s.h, s.nx + n, s.rd, s.wr⟩ ∧ ∀ k, s.nx ≤ k → k < s.nx + n → s.h.get k = none := by
  unfold Run skipL at h
  split at h
  · cases h
  · rename_i e
    simp only [T.strictT_eq, Ks.strict_eq] at h
    cases h
    exact ⟨rfl, fun k => freeN_iff.1 e k⟩
theorem skipL_of {n : Nat} {l : List (Nat × AObj)} {s : St} (h : ∀ k, s.nx ≤ k → k < s.nx + n → s.h.get k = none) : skipL n l s = some ((), ⟨layT s.nx (s.nx + n) l s.h, s.nx + n, s.rd, s.wr⟩) := by
  unfold skipL
  rw [freeN_iff.2 h]
  simp only [T.strictT_eq, Ks.strict_eq]
  rfl
theorem putL_some {a b : Nat} : ∀ {l : List (Nat × AObj)} {s s' : St} {u : Unit}, Run (putL a b l) s u s' → s'.nx = s.nx ∧ ∀ k o, s'.h.get k = some o → (k, o) ∈ l ∨ (s.h.get k = some o ∧ ∀ o', (k, o') ∈ l → a ≤ k ∧ k < b)
  | [], s, s', u, h => by obtain ⟨_, rfl⟩ := ret_some h; exact ⟨rfl, fun k o e => .inr ⟨e, fun o' hm => nomatch hm⟩⟩
  | (j, x) :: l, s, s', u, h => by
    simp only [putL] at h
    split at h
    · rename_i ein
      obtain ⟨e3, e4⟩ := putL_some h
      refine ⟨e3, fun k o e => ?_⟩
      rcases e4 k o e with e | ⟨e, hn⟩
      · exact .inl (List.mem_cons_of_mem _ e)
      · refine .inr ⟨e, fun o' hm => ?_⟩
        rcases List.mem_cons.1 hm with hm | hm
        · cases hm; exact inR_true ein
        · exact hn o' hm
    · obtain ⟨i, s1, h1, h2⟩ := bnd_some h
      obtain ⟨_, e1, e2⟩ := setO_some h1
      obtain ⟨e3, e4⟩ := putL_some h2
      refine ⟨e3.trans e2, fun k o e => ?_⟩
      rcases e4 k o e with e | ⟨e, hn⟩
      · exact .inl (List.mem_cons_of_mem _ e)
      · rw [e1, T.get_set] at e
        split at e
        · rename_i ek; subst ek; cases e; exact .inl (List.mem_cons_self ..)
        · rename_i ek
          refine .inr ⟨e, fun o' hm => ?_⟩
          rcases List.mem_cons.1 hm with hm | hm
          · cases hm; exact absurd rfl ek
          · exact hn o' hm
theorem good_chkN (n : Nat) : Good (chkN n) where
  mono {s x s'} h := by unfold chkN at h; split at h <;> cases h; exact ⟨Nat.le_refl _, fun _ h => h, fun _ h => h⟩
  keep {s x s'} h := by unfold chkN at h; split at h <;> cases h; exact ⟨fun _ h => h, fun k hk => by omega⟩
  wrote {s x s'} h k hk := by unfold chkN at h; split at h <;> cases h; exact .inl hk
  frame {s x s'} h k _ _ := by unfold chkN at h; split at h <;> cases h; rfl
  same {s x s'} h t ht := by
    unfold chkN at h
    split at h
    · rename_i e
      cases h
      refine ⟨t, ?_, fun _ h => h, fun _ _ _ => rfl⟩
      unfold chkN
      simp only [e]
    · cases h
theorem good_chkL : ∀ l, Good (chkL l)
  | [] => good_ret _
  | (k, o) :: l => good_bnd (good_getO _) fun o' => by
    split
    · exact good_chkL l
    · exact good_fail
theorem good_skipL (n : Nat) (l : List (Nat × AObj)) : Good (skipL n l) where
  mono {s x s'} h := by obtain ⟨rfl, _⟩ := skipL_some h; exact ⟨Nat.le_add_right _ _, fun _ h => h, fun _ h => h⟩
  keep {s x s'} h := by
    obtain ⟨rfl, hf⟩ := skipL_some h
    exact ⟨fun k hk => layT_keep hk, fun k hk => hf k hk.1 hk.2⟩
  wrote {s x s'} h k hk := by obtain ⟨rfl, _⟩ := skipL_some h; exact .inl hk
  frame {s x s'} h k _ hn := by obtain ⟨rfl, _⟩ := skipL_some h; exact layT_out hn
  same {s x s'} h t ht := by
    obtain ⟨rfl, hf⟩ := skipL_some h
    refine ⟨layT s.nx (s.nx + n) l t, skipL_of (s := { s with h := t }) fun k h1 h2 => ?_, fun k hk => layT_congr hk, fun k _ hn => layT_out hn⟩
    exact (ht k (.inr ⟨h1, h2⟩)).trans (hf k h1 h2)
theorem good_putL (a b : Nat) : ∀ l, Good (putL a b l)
  | [] => good_ret _
  | (k, o) :: l => by
    simp only [putL]
    split
    · exact good_putL a b l
    · exact good_bnd (good_setO _ _) fun _ => good_putL a b l
theorem good_recM (r : Rc) (args : List AV) : Good (recM r args) := by
  unfold recM
  split
  · exact good_fail
  · exact good_bnd (good_chkN _) fun _ => good_bnd (good_chkL _) fun _ => good_bnd (good_skipL _ _) fun _ => good_bnd (good_putL _ _ _) fun _ => good_ret _
/-- Fewer objects. -/
theorem Rel.less {B : Nat} {w0 w : World} {ρ : Ren} {h h' : Hp} (hr : Rel B w0 ρ h w) (hl : ∀ k o, h' k = some o → o = .dead ∨ h k = some o) : Rel B w0 ρ h' w := by
  have lift : ∀ i, liveAt h' i → liveAt h i := by
    rintro i ⟨o, ho, hlo⟩
    rcases hl i o ho with rfl | e
    · cases hlo
    · exact ⟨o, e, hlo⟩
  refine ⟨hr.bel, hr.hB, fun i o ho => ?_, fun i j p q li lj => hr.inj i j p q (lift i li) (lift j lj), fun i p li => hr.low i p (lift i li)⟩
  rcases hl i o ho with rfl | e
  · trivial
  · exact hr.objs i o e
theorem postB_mem {K : Ks} {nx nx' : Nat} {t : T AObj} : ∀ {l : List (Nat × AObj)}, postB K nx nx' t l = true → ∀ x ∈ l, (x.1 ∈ K ∨ (nx ≤ x.1 ∧ x.1 < nx')) ∧ (x.2 = .dead ∨ t.get x.1 = some x.2)
  | [], _, x, hx => nomatch hx
  | (k, o) :: l, h, x, hx => by
    simp only [postB] at h
    have hin : (k ∈ K ∨ (nx ≤ k ∧ k < nx')) ∧ (o = .dead ∨ t.get k = some o) ∧ postB K nx nx' t l = true := by
      split at h
      · cases h
      · rename_i hc
        have h1 : k ∈ K ∨ (nx ≤ k ∧ k < nx') := by
          cases e1 : hasK k K with
          | true => exact .inl (hasK_iff.1 e1)
          | false =>
            cases e2 : andB (Nat.ble nx k) (Nat.blt k nx') with
            | true => obtain ⟨a, b⟩ := andB_true e2; exact .inr ⟨ble_true a, blt_true b⟩
            | false => exact (hc e1 e2).elim
        split at h
        · rename_i hd
          refine ⟨h1, .inl ?_, h⟩
          cases o <;> first | rfl | cases hd
        · split at h
          · cases h
          · rename_i o' ho'
            split at h
            · rename_i e
              exact ⟨h1, .inr (by rw [ho', objB_eq e]), h⟩
            · cases h
    rcases List.mem_cons.1 hx with rfl | hx
    · exact ⟨hin.1, hin.2.1⟩
    · exact postB_mem hin.2.2 x hx
section
variable {E : Env} {P : Program} {B : Nat} {w0 : World}
theorem recM_ok (hT : Tab E P) (hsum : ∀ g m, E.sum g = some m → SumOk P B w0 g m) {r : Rc} {f g : Nat} (hrec : recOk r (callA E (f + 1) false g r.args (startS r)) = true) : SumOk P B w0 g (recM r) where
  good := good_recM r
  run {args s v s'} h ρ w ARGS hr hfree hA := by
    unfold recM at h
    split at h
    · exact (fail_some h).elim
    · rename_i ha
      have ha := allB_eq (fun a b => valB_eq) ha
      subst ha
      replace h := bnd_some h; obtain ⟨_, s1, g1, h⟩ := h
      replace h := bnd_some h; obtain ⟨_, s2, g2, h⟩ := h
      replace h := bnd_some h; obtain ⟨_, s3, g3, h⟩ := h
      replace h := bnd_some h; obtain ⟨_, s4, g4, h⟩ := h
      obtain ⟨rfl, rfl⟩ := ret_some h
      have e1 : s1 = s ∧ s.nx = r.nx := by
        unfold Run chkN at g1
        split at g1
        · rename_i e; cases g1; exact ⟨rfl, beq_true e⟩
        · cases g1
      obtain ⟨rfl, hnx⟩ := e1
      obtain ⟨hr2, hpre⟩ := chkL_some g2
      obtain ⟨hn3, hg3⟩ := skipL_some g3
      obtain ⟨hn4, hg4⟩ := putL_some g4
      have hs3n : s3.nx = s2.nx + (r.nx' - r.nx) := by rw [hn3]
      -- the record
      unfold recOk at hrec
      split at hrec
      · cases hrec
      · rename_i v1 t1 hrun
        obtain ⟨h1, nx1, rd1, wr1⟩ := t1
        simp only [Ks.strict_eq] at hrec
        obtain ⟨q1, hrec⟩ := andB_true hrec
        obtain ⟨q2, hrec⟩ := andB_true hrec
        obtain ⟨q3, hrec⟩ := andB_true hrec
        obtain ⟨q4, hrec⟩ := andB_true hrec
        obtain ⟨q5, q6⟩ := andB_true hrec
        have q1 := valB_eq q1
        have q2 := beq_true q2
        have q5 := ble_true q5
        subst q1 q2
        have q6 := postB_mem q6
        have gd := good_callA E (fun g m hm => (hsum g m hm).good) (f + 1) false g r.args
        obtain ⟨l1, l2⟩ := litT_get s1.h hpre
        have hs2h : s2.h = s1.h := hr2.1
        have hs2n : s2.nx = s1.nx := hr2.2
        have kp := gd.keep hrun
        have fresh : ∀ k, r.nx ≤ k → k < r.nx' → s1.h.get k = none := fun k a b => by
          rw [← hs2h]; exact hg3 k (by omega) (by omega)
        obtain ⟨t', hrun', hc', hd'⟩ := gd.same hrun s1.h (fun k hk => by
          simp only [startS] at hk ⊢
          rcases hk with hk | hk
          · obtain ⟨o, ho⟩ := keysK_mem (subK_mem q3 hk)
            have := l2 _ ho
            cases e : (litT r.pre).get k with
            | none => exact absurd e this
            | some o' => exact l1 k o' e
          · rw [fresh k hk.1 hk.2]
            exact (kp.2 k hk).symm)
        have hrun2 : Run (callA E (f + 1) false g r.args) { s1 with rd := Ks.emp, wr := Ks.emp } r.v ⟨t', r.nx', rd1, wr1⟩ := by
          unfold Run
          have : ({ s1 with rd := Ks.emp, wr := Ks.emp } : St) = { startS r with h := s1.h } := by
            simp only [startS, hnx]
          rw [this]
          exact hrun'
        obtain ⟨fn, f1, f2, f3, f4⟩ := fn_core hT hsum (callsOk hT hsum f) hrun2 (ρ := ρ) (w := w) (ARGS := ARGS) hr (fun k a b => hfree k a (by simp only at b; omega)) hA
        refine ⟨fn, f1, f2, f3, fun cs => ?_⟩
        obtain ⟨ρ', V, w', fr, k1, k2, k3, k4, k5, k6⟩ := f4 cs
        refine ⟨ρ', V, w', fr, k1, k2, k3, ?_, ?_, k6⟩
        · have : s4.nx = r.nx' := by rw [hn4, hn3]; simp only; omega
          rw [this]; exact k4
        · refine k5.less fun k o ho => ?_
          have fin : (k, o) ∈ r.post → o = .dead ∨ t'.get k = some o := fun hm => by
            obtain ⟨p1, p2⟩ := q6 (k, o) hm
            rcases p2 with rfl | p2
            · exact .inl rfl
            · refine .inr ?_
              simp only at p1 p2
              rw [hc' k ?_]
              · exact p2
              · simp only [startS]
                rcases p1 with p1 | p1
                · obtain ⟨x, hx⟩ := keysK_mem p1
                  have := l2 _ hx
                  cases e : (litT r.pre).get k with
                  | none => exact absurd e this
                  | some o' => exact l1 k o' e
                · rw [fresh k p1.1 p1.2]
                  exact (kp.2 k p1).symm
          rcases hg4 k o ho with hm | ⟨ho, hn⟩
          · exact fin hm
          · rw [hn3] at ho
            simp only at ho
            by_cases hin : s2.nx ≤ k ∧ k < s2.nx + (r.nx' - r.nx)
            · rcases layT_in ho with hm | ho
              · exact fin hm
              · rw [hg3 k hin.1 hin.2] at ho
                cases ho
            · rw [layT_out hin] at ho
              refine .inr ?_
              have hnw : k ∉ wr1 := fun hw => by
                obtain ⟨x, hx⟩ := keysK_mem (subK_mem q4 hw)
                have := hn x hx
                omega
              have := hd' k hnw (by simp only [startS]; omega)
              simp only at this ⊢
              rw [this, ← hs2h]
              exact ho
/-- Of several records that of the state's own names. -/
def pickM (l : List Rc) (args : List AV) : M AV := match l with
  | [] => fail
  | r :: l => fun s => match Nat.beq s.nx r.nx with
    | true => recM r args s
    | false => pickM l args s
theorem pickM_ok {g : Nat} : ∀ {l : List Rc}, (∀ r ∈ l, SumOk P B w0 g (recM r)) → SumOk P B w0 g (pickM l)
  | [], _ => ⟨fun _ => good_fail, fun h => (fail_some h).elim⟩
  | r :: l, hl => by
    have h1 := hl r (List.mem_cons_self ..)
    have h2 := pickM_ok (l := l) fun x hx => hl x (List.mem_cons_of_mem _ hx)
    have hsplit : ∀ {args s v s'}, pickM (r :: l) args s = some (v, s') → (Nat.beq s.nx r.nx = true ∧ recM r args s = some (v, s')) ∨ (Nat.beq s.nx r.nx = false ∧ pickM l args s = some (v, s')) := by
      intro args s v s' h
      simp only [pickM] at h
      split at h
      · rename_i e; exact .inl ⟨e, h⟩
      · rename_i e; exact .inr ⟨e, h⟩
    refine ⟨fun args => ⟨?_, ?_, ?_, ?_, ?_⟩, ?_⟩
    · intro s x s' h
      rcases hsplit h with ⟨_, h⟩ | ⟨_, h⟩
      · exact (h1.good args).mono h
      · exact (h2.good args).mono h
    · intro s x s' h
      rcases hsplit h with ⟨_, h⟩ | ⟨_, h⟩
      · exact (h1.good args).keep h
      · exact (h2.good args).keep h
    · intro s x s' h
      rcases hsplit h with ⟨_, h⟩ | ⟨_, h⟩
      · exact (h1.good args).wrote h
      · exact (h2.good args).wrote h
    · intro s x s' h
      rcases hsplit h with ⟨_, h⟩ | ⟨_, h⟩
      · exact (h1.good args).frame h
      · exact (h2.good args).frame h
    · intro s x s' h t ht
      rcases hsplit h with ⟨e, h⟩ | ⟨e, h⟩
      · obtain ⟨t', a, b, c⟩ := (h1.good args).same h t ht
        exact ⟨t', by simp only [pickM, e]; exact a, b, c⟩
      · obtain ⟨t', a, b, c⟩ := (h2.good args).same h t ht
        exact ⟨t', by simp only [pickM, e]; exact a, b, c⟩
    · intro args s v s' h
      rcases hsplit h with ⟨_, h⟩ | ⟨_, h⟩
      · exact h1.run h
      · exact h2.run h
end
end Go.Aex
