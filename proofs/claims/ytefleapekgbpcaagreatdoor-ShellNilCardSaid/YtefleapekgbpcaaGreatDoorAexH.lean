/- Each of the executor's operations is good. -/
import Derived.Test.YtefleapekgbpcaaGreatDoorAexG
set_option linter.unusedVariables false
namespace Go.Aex
theorem strictN_is {β : Type} (n : Nat) (f : Nat → β) : strictN n f = f n := by cases n <;> rfl
theorem strictI_is {β : Type} (n : Int) (f : Int → β) : strictI n f = f n := by cases n <;> simp [strictI, strictN_is]
theorem good_getRow (i : Nat) : Good (getRow i) := by
  unfold getRow; repeat' (first | exact good_ret _ | exact good_fail | exact good_getO _ | refine good_bnd ?_ (fun _ => ?_) | split)
theorem good_getMap (i : Nat) : Good (getMap i) := by
  unfold getMap; repeat' (first | exact good_ret _ | exact good_fail | exact good_getO _ | refine good_bnd ?_ (fun _ => ?_) | split)
theorem good_tyOf (E : Env) (t : Nat) : Good (tyOf E t) := good_ofOpt _
theorem good_newRowA (e : Nat) (cs : List AV) : Good (newRowA e cs) := good_newO _
theorem good_loadA (E : Env) (t : Nat) (a : AV) : Good (loadA E t a) := by
  unfold loadA; repeat' (first | exact good_ret _ | exact good_fail | exact good_tyOf _ _ | exact good_getRow _ | refine good_bnd ?_ (fun _ => ?_) | split)
theorem good_storeCellsA (i o : Nat) (vs : List AV) : Good (storeCellsA i o vs) := by
  unfold storeCellsA; repeat' (first | exact good_ret _ | exact good_fail | exact good_setO _ _ | exact good_getRow _ | refine good_bnd ?_ (fun _ => ?_) | split)
theorem good_storeA (E : Env) (t : Nat) (a v : AV) : Good (storeA E t a v) := by
  unfold storeA; repeat' (first | exact good_ret _ | exact good_fail | exact good_tyOf _ _ | exact good_storeCellsA _ _ _ | refine good_bnd ?_ (fun _ => ?_) | split)
theorem good_boxA (v : AV) : Good (boxA v) := by
  unfold boxA; repeat' (first | exact good_ret _ | exact good_fail | exact good_newRowA _ _ | refine good_bnd ?_ (fun _ => ?_) | split)
theorem good_buildA (E : Env) (t : Nat) (ps : List (Nat × AV)) : Good (buildA E t ps) := by
  unfold buildA; repeat' (first | exact good_ret _ | exact good_fail | exact good_tyOf _ _ | refine good_bnd ?_ (fun _ => ?_) | split)
theorem good_buildSliceA (E : Env) (t n : Nat) (ps : List (Nat × AV)) : Good (buildSliceA E t n ps) := by
  unfold buildSliceA; repeat' (first | exact good_ret _ | exact good_fail | exact good_tyOf _ _ | exact good_newRowA _ _ | refine good_bnd ?_ (fun _ => ?_) | split)
theorem good_fieldA (E : Env) (t : Nat) (x : AV) (f : Nat) : Good (fieldA E t x f) := by
  unfold fieldA; repeat' (first | exact good_ret _ | exact good_fail | exact good_ofOpt _ | exact good_tyOf _ _ | refine good_bnd ?_ (fun _ => ?_) | split)
theorem good_fieldAddrA (E : Env) (t : Nat) (x : AV) (f : Nat) : Good (fieldAddrA E t x f) := by
  unfold fieldAddrA; repeat' (first | exact good_ret _ | exact good_fail | exact good_tyOf _ _ | refine good_bnd ?_ (fun _ => ?_) | split | rw [strictN_is])
theorem good_arrayAtA (E : Env) (t : Nat) (x : AV) : Good (arrayAtA E t x) := by
  unfold arrayAtA; repeat' (first | exact good_ret _ | exact good_fail | exact good_tyOf _ _ | refine good_bnd ?_ (fun _ => ?_) | split)
theorem good_indexAddrA (E : Env) (t : Nat) (x i : AV) : Good (indexAddrA E t x i) := by
  unfold indexAddrA; repeat' (first | exact good_ret _ | exact good_fail | exact good_tyOf _ _ | refine good_bnd ?_ (fun _ => ?_) | split | rw [strictN_is])
theorem good_indexA (E : Env) (t : Nat) (x i : AV) : Good (indexA E t x i) := by
  unfold indexA; repeat' (first | exact good_ret _ | exact good_fail | exact good_ofOpt _ | exact good_tyOf _ _ | refine good_bnd ?_ (fun _ => ?_) | split | rw [strictN_is])
theorem good_sliceLit (i o len c sz : Nat) (lo hi mx : Option Nat) : Good (sliceLit i o len c sz lo hi mx) := by
  unfold sliceLit; repeat' (first | exact good_ret _ | exact good_fail | simp only [strictN_is] | split)
theorem good_sliceA (E : Env) (t : Nat) (x : AV) (lo hi mx : Option AV) : Good (sliceA E t x lo hi mx) := by
  unfold sliceA; repeat' (first | exact good_sliceLit _ _ _ _ _ _ _ _ | exact good_getRow _ | exact good_ret _ | exact good_fail | exact good_tyOf _ _ | refine good_bnd ?_ (fun _ => ?_) | simp only [strictN_is] | split)
theorem good_firstA (size n : Nat) (x : AV) : Good (firstA size n x) := by
  unfold firstA; repeat' (first | exact good_ret _ | exact good_fail | exact good_ofOpt _ | exact good_getRow _ | refine good_bnd ?_ (fun _ => ?_) | split)
theorem good_grown (e : Nat) (cs : List (Option AV)) (n : Nat) : Good (grown e cs n) := by
  unfold grown; exact good_bnd (good_newO _) (fun _ => good_ret _)
theorem good_appendTo (sz : Nat) (s : AV) (n len : Nat) (new : List AV) : Good (appendTo sz s n len new) := by
  unfold appendTo; repeat' (first | exact good_ret _ | exact good_fail | exact good_getRow _ | exact good_setO _ _ | exact good_grown _ _ _ | refine good_bnd ?_ (fun _ => ?_) | simp only [strictN_is] | split)
theorem good_appendA (E : Env) (t xt : Nat) (s x : AV) : Good (appendA E t xt s x) := by
  unfold appendA; repeat' (first | exact good_ret _ | exact good_fail | exact good_tyOf _ _ | exact good_appendTo _ _ _ _ _ | exact good_firstA _ _ _ | refine good_bnd ?_ (fun _ => ?_) | simp only [strictN_is] | split)
theorem good_bool (b : Bool) (f : AV → M AV) (hf : ∀ x, Good (f x)) : Good (bool b f) := by cases b <;> exact hf _
theorem good_int (k : IntKind) (n : Int) : Good (int k n) := by unfold int; rw [strictI_is]; exact good_ret _
theorem good_binA (E : Env) (op : BinOp) (t : Nat) (x y : AV) : Good (binA E op t x y) := by
  unfold binA; repeat' (first | exact good_ret _ | exact good_fail | exact good_int _ _ | refine good_bool _ _ (fun _ => ?_) | split)
theorem good_unA (op : UnOp) (x : AV) : Good (unA op x) := by
  unfold unA; repeat' (first | exact good_ret _ | exact good_fail | exact good_int _ _ | refine good_bool _ _ (fun _ => ?_) | split)
theorem good_convA (E : Env) (a b : Nat) (x : AV) : Good (convA E a b x) := by
  unfold convA; repeat' (first | exact good_ret _ | (rw [strictN_is]; exact good_grown _ _ _) | exact good_fail | exact good_int _ _ | exact good_tyOf _ _ | exact good_getRow _ | exact good_newO _ | exact good_grown _ _ _ | refine good_bnd ?_ (fun _ => ?_) | split)
theorem good_makeSliceA (E : Env) (t : Nat) (a b : AV) : Good (makeSliceA E t a b) := by
  unfold makeSliceA; repeat' (first | exact good_ret _ | exact good_fail | exact good_tyOf _ _ | exact good_newRowA _ _ | refine good_bnd ?_ (fun _ => ?_) | simp only [strictN_is] | split)
theorem good_lookupA (E : Env) (t : Nat) (m k : AV) (ok : Bool) : Good (lookupA E t m k ok) := by
  unfold lookupA; repeat' (first | exact good_ret _ | exact good_fail | exact good_tyOf _ _ | exact good_getMap _ | refine good_bnd ?_ (fun _ => ?_) | split)
theorem good_mapUpdateA (E : Env) (t : Nat) (m k v : AV) : Good (mapUpdateA E t m k v) := by
  unfold mapUpdateA; repeat' (first | exact good_ret _ | exact good_fail | exact good_tyOf _ _ | exact good_getMap _ | exact good_setO _ _ | refine good_bnd ?_ (fun _ => ?_) | simp only [strictN_is] | split)
theorem good_makeChanA (E : Env) (t : Nat) (n : AV) : Good (makeChanA E t n) := by
  unfold makeChanA; repeat' (first | exact good_ret _ | exact good_fail | exact good_tyOf _ _ | exact good_newO _ | refine good_bnd ?_ (fun _ => ?_) | split)
theorem good_lenOfA (E : Env) (t : Nat) (x : AV) : Good (lenOfA E t x) := by
  unfold lenOfA; repeat' (first | exact good_ret _ | exact good_fail | exact good_tyOf _ _ | exact good_getMap _ | exact good_getO _ | refine good_bnd ?_ (fun _ => ?_) | simp only [strictN_is] | split)
theorem good_capOfA (E : Env) (t : Nat) (x : AV) : Good (capOfA E t x) := by
  unfold capOfA; repeat' (first | exact good_ret _ | exact good_fail | exact good_tyOf _ _ | exact good_getO _ | refine good_bnd ?_ (fun _ => ?_) | simp only [strictN_is] | split)
theorem good_copyA (E : Env) (t : Nat) (d x : AV) : Good (copyA E t d x) := by
  unfold copyA; repeat' (first | exact good_ret _ | exact good_fail | exact good_tyOf _ _ | exact good_firstA _ _ _ | exact good_storeCellsA _ _ _ | refine good_bnd ?_ (fun _ => ?_) | simp only [strictN_is] | split)
theorem good_clearA (E : Env) (t : Nat) (x : AV) : Good (clearA E t x) := by
  unfold clearA; repeat' (first | exact good_ret _ | exact good_fail | exact good_tyOf _ _ | exact good_getMap _ | exact good_setO _ _ | exact good_storeCellsA _ _ _ | refine good_bnd ?_ (fun _ => ?_) | split)
theorem good_deleteA (E : Env) (t : Nat) (x k : AV) : Good (deleteA E t x k) := by
  unfold deleteA; repeat' (first | exact good_ret _ | exact good_fail | exact good_tyOf _ _ | exact good_getMap _ | exact good_setO _ _ | refine good_bnd ?_ (fun _ => ?_) | split)
theorem good_builtinA (E : Env) (b : Builtin) (ts : List Nat) (xs : List AV) : Good (builtinA E b ts xs) := by
  unfold builtinA; repeat' (first | exact good_ofOpt _ | exact good_fail | exact good_appendA _ _ _ _ _ | exact good_lenOfA _ _ _ | exact good_capOfA _ _ _ | exact good_copyA _ _ _ _ | exact good_clearA _ _ _ | exact good_deleteA _ _ _ _ | split)
theorem good_selectA (E : Env) (t : T AV) (cs : List SelectCase) (b : Bool) : Good (selectA E t cs b) := by
  unfold selectA; repeat' (first | exact good_ret _ | exact good_fail | exact good_tyOf _ _ | exact good_getO _ | exact good_setO _ _ | refine good_bnd ?_ (fun _ => ?_) | simp only [strictN_is] | split)
theorem good_opA (E : Env) (cf : Bool → Nat → List AV → M AV) (hc : ∀ b f a, Good (cf b f a)) (t : T AV) (op : Op) : Good (opA E cf t op) := by
  unfold opA; repeat' (first | exact good_ret _ | exact good_fail | exact good_ofOpt _ | exact good_tyOf _ _ | exact good_boxA _ | exact good_buildA _ _ _ | exact good_buildSliceA _ _ _ _ | exact good_loadA _ _ _ | exact good_storeA _ _ _ _ | exact good_binA _ _ _ _ _ | exact good_unA _ _ | exact good_convA _ _ _ _ | exact good_newO _ | exact good_makeChanA _ _ _ | exact good_makeSliceA _ _ _ _ | exact good_sliceA _ _ _ _ _ _ | exact good_arrayAtA _ _ _ | exact good_fieldAddrA _ _ _ _ | exact good_fieldA _ _ _ _ | exact good_indexAddrA _ _ _ _ | exact good_indexA _ _ _ _ | exact good_lookupA _ _ _ _ _ | exact good_mapUpdateA _ _ _ _ _ | exact good_builtinA _ _ _ _ | exact hc _ _ _ | exact good_selectA _ _ _ _ | refine good_bnd ?_ (fun _ => ?_) | split)
theorem good_stepA (E : Env) (cf : Bool → Nat → List AV → M AV) (hc : ∀ b f a, Good (cf b f a)) (ops : List Oper) (t : T AV) (o : Oper) : Good (stepA E cf ops t o) := by
  unfold stepA; repeat' (first | exact good_ret _ | exact good_fail | exact good_opA _ _ hc _ _ | split)
theorem good_putA (n : Nat) (t : T AV) (d : Option Tmp) (v : AV) : Good (putA n t d v) := by
  unfold putA; repeat' (first | exact good_ret _ | exact good_fail | split)
theorem good_seqA (E : Env) (cf : Bool → Nat → List AV → M AV) (hc : ∀ b f a, Good (cf b f a)) (n : Nat) (ops : List Oper) : ∀ (l : List Oper) (t : T AV), Good (seqA E cf n ops l t)
  | [], t => good_ret _
  | o :: l, t => good_bnd (good_stepA E cf hc ops t o) fun v => good_bnd (good_putA n t o.dst v) fun t' => good_seqA E cf hc n ops l t'
theorem footed_some {α : Type} {m : M α} {s s' : St} {r : α × Foot} (h : footed m s = some (r, s')) : ∃ s1, m { s with rd := Ks.emp, wr := Ks.emp } = some (r.1, s1) ∧ r.2 = ⟨s1.rd, s1.wr, s.nx, s1.nx⟩ ∧ s' = { s1 with rd := Ks.uni s1.rd s.rd, wr := Ks.uni s1.wr s.wr } := by
  rw [footed_eq] at h; dsimp only at h
  split at h
  · cases h
  · rename_i x s1 hm; cases h; exact ⟨s1, hm, rfl, rfl⟩
theorem good_footed {α : Type} {m : M α} (hm : Good m) : Good (footed m) where
  mono h := by
    obtain ⟨s1, h1, h2, rfl⟩ := footed_some h
    have := hm.mono h1
    exact ⟨this.1, fun k hk => Ks.mem_uni_right hk, fun k hk => Ks.mem_uni_right hk⟩
  keep {s r s'} h := by
    obtain ⟨s1, h1, h2, rfl⟩ := footed_some h
    have := hm.keep h1
    exact this
  wrote h k hk := by
    obtain ⟨s1, h1, h2, rfl⟩ := footed_some h
    rcases Ks.mem_uni.1 hk with hk | hk
    · rcases hm.wrote h1 k hk with hw | ⟨hr, hw⟩
      · exact absurd hw Ks.not_mem_emp
      · exact .inr ⟨Ks.mem_uni_left hr, hw⟩
    · exact .inl hk
  frame h k hk hn := by
    obtain ⟨s1, h1, h2, rfl⟩ := footed_some h
    exact hm.frame h1 k (fun e => hk (Ks.mem_uni_left e)) hn
  same {s r s'} h t ht := by
    obtain ⟨s1, h1, h2, rfl⟩ := footed_some h
    obtain ⟨t', e, c, d⟩ := hm.same h1 t (fun k hk => ht k (hk.elim (fun e => .inl (Ks.mem_uni_left e)) .inr))
    refine ⟨t', ?_, c, fun k hk hn => d k (fun e => hk (Ks.mem_uni_left e)) hn⟩
    obtain ⟨x, f⟩ := r
    simp only at h2
    subst h2
    rw [footed_eq]
    simp only at e ⊢
    rw [e]
theorem memN_iff (k : Nat) (l : List Nat) : memN k l = true ↔ k ∈ l := by
  induction l with
  | nil => simp [memN]
  | cons x l ih =>
    simp only [memN]
    split
    · rename_i h; have := Nat.eq_of_beq_eq_true h; subst this; simp
    · rename_i h
      have : k ≠ x := fun e => by subst e; simp at h
      simp [ih, this]
theorem dropNew_bits (lo hi l acc k : Nat) : Nat.testBit (Nat.lor acc (Nat.lor (Nat.land l (Nat.sub (Nat.pow 2 lo) 1)) (Nat.shiftLeft (Nat.shiftRight l hi) hi))) k = true ↔ Nat.testBit acc k = true ∨ (Nat.testBit l k = true ∧ (k < lo ∨ hi ≤ k)) := by
  show Nat.testBit (acc ||| ((l &&& (2 ^ lo - 1)) ||| ((l >>> hi) <<< hi))) k = true ↔ _
  rw [Nat.testBit_or, Nat.testBit_or, Nat.testBit_and, Nat.testBit_two_pow_sub_one, Nat.testBit_shiftLeft, Nat.testBit_shiftRight]
  simp only [Bool.or_eq_true, Bool.and_eq_true, decide_eq_true_eq]
  constructor
  · rintro (h | ⟨h1, h2⟩ | ⟨h1, h2⟩)
    · exact .inl h
    · exact .inr ⟨h1, .inl h2⟩
    · exact .inr ⟨by rw [show hi + (k - hi) = k by omega] at h2; exact h2, .inr h1⟩
  · rintro (h | ⟨h1, h2 | h2⟩)
    · exact .inl h
    · exact .inr (.inl ⟨h1, h2⟩)
    · exact .inr (.inr ⟨h2, by rw [show hi + (k - hi) = k by omega]; exact h1⟩)
theorem dropNew_bit (lo hi : Nat) (l acc : Ks) (k : Nat) : k ∈ dropNew lo hi l acc ↔ k ∈ acc ∨ (k ∈ l ∧ (k < lo ∨ hi ≤ k)) := dropNew_bits lo hi l acc k
theorem dropNew_acc (lo hi : Nat) (l acc : Ks) (k : Nat) (h : k ∈ acc) : k ∈ dropNew lo hi l acc := (dropNew_bit ..).2 (.inl h)
theorem dropNew_mem (lo hi : Nat) (l acc : Ks) (k : Nat) (h : k ∈ l) : k ∈ dropNew lo hi l acc ∨ (lo ≤ k ∧ k < hi) := by
  by_cases e : lo ≤ k ∧ k < hi
  · exact .inr e
  · exact .inl ((dropNew_bit ..).2 (.inr ⟨h, by omega⟩))
theorem dropNew_sub (lo hi : Nat) (l acc : Ks) (k : Nat) (h : k ∈ dropNew lo hi l acc) : k ∈ acc ∨ (k ∈ l ∧ ¬(lo ≤ k ∧ k < hi)) := by
  rcases (dropNew_bit ..).1 h with h | ⟨h, e⟩
  · exact .inl h
  · exact .inr ⟨h, by omega⟩
theorem struck_some {α : Type} {m : M α} {s s' : St} {x : α} (h : struck m s = some (x, s')) : ∃ s1, m { s with rd := Ks.emp, wr := Ks.emp } = some (x, s1) ∧ s' = { s1 with rd := dropNew s.nx s1.nx s1.rd s.rd, wr := dropNew s.nx s1.nx s1.wr s.wr } := by
  rw [struck_eq] at h; dsimp only at h
  split at h
  · cases h
  · rename_i x s1 hm; cases h; exact ⟨s1, hm, rfl⟩
theorem good_struck {α : Type} {m : M α} (hm : Good m) : Good (struck m) where
  mono h := by
    obtain ⟨s1, h1, rfl⟩ := struck_some h
    have := hm.mono h1
    exact ⟨this.1, fun k hk => dropNew_acc _ _ _ _ k hk, fun k hk => dropNew_acc _ _ _ _ k hk⟩
  keep {s x s'} h := by
    obtain ⟨s1, h1, rfl⟩ := struck_some h
    have := hm.keep h1
    exact this
  wrote {s x s'} h k hk := by
    obtain ⟨s1, h1, rfl⟩ := struck_some h
    rcases dropNew_sub _ _ _ _ k hk with hk | hk
    · exact .inl hk
    · rcases hm.wrote h1 k hk.1 with hw | ⟨hr, hw⟩
      · exact absurd hw Ks.not_mem_emp
      · rcases dropNew_mem s.nx s1.nx s1.rd s.rd k hr with hr | hr
        · exact .inr ⟨hr, hw⟩
        · exact absurd hr hk.2
  frame {s x s'} h k hk hn := by
    obtain ⟨s1, h1, rfl⟩ := struck_some h
    refine hm.frame h1 k (fun e => ?_) hn
    rcases dropNew_mem s.nx s1.nx s1.wr s.wr k e with hr | hr
    · exact hk hr
    · exact hn hr
  same {s x s'} h t ht := by
    obtain ⟨s1, h1, rfl⟩ := struck_some h
    obtain ⟨t', e, c, d⟩ := hm.same h1 t (fun k hk => ht k (hk.elim (fun e => (dropNew_mem s.nx s1.nx s1.rd s.rd k e)) .inr))
    refine ⟨t', ?_, c, fun k hk hn => d k (fun e => ?_) hn⟩
    · rw [struck_eq]
      simp only at e ⊢
      rw [e]
    · rcases dropNew_mem s.nx s1.nx s1.wr s.wr k e with hr | hr
      · exact hk hr
      · exact hn hr
theorem good_drawA (E : Env) (cf : Bool → Nat → List AV → M AV) (hc : ∀ b f a, Good (cf b f a)) (n : Nat) (ops : List Oper) : ∀ (l : List Oper) (t : T AV) (fs : List Foot), Good (drawA E cf n ops l t fs)
  | [], t, fs => good_ret _
  | o :: l, t, fs => good_bnd (good_footed (good_stepA E cf hc ops t o)) fun r => good_bnd (good_putA n t o.dst r.1) fun t' => good_drawA E cf hc n ops l t' _
theorem good_regionA (E : Env) (cf : Bool → Nat → List AV → M AV) (hc : ∀ b f a, Good (cf b f a)) (n : Nat) (ops : List Oper) (d : Bool) (t : T AV) : Good (regionA E cf n ops d t) := by
  unfold regionA
  split
  · exact good_seqA E cf hc n ops ops t
  · split
    · exact good_fail
    · refine good_bnd (good_drawA E cf hc n ops ops t []) (fun r => ?_)
      split
      · exact good_ret _
      · exact good_fail
theorem good_codeA (E : Env) (cf : Bool → Nat → List AV → M AV) (hc : ∀ b f a, Good (cf b f a)) (rnd : Bool) (n : Nat) : ∀ (f : Nat) (c : Code) (t : Fr), Good (codeA E cf rnd n f c t) := by
  intro f
  induction f with
  | zero => intro c t; exact good_fail
  | succ f ih =>
    intro c t
    unfold codeA
    repeat' (first | exact good_ret _ | exact good_fail | exact ih _ _ | exact hc _ _ _ | exact good_newO _ | exact good_getO _ | exact good_setO _ _ | exact good_regionA E cf hc _ _ _ _ | refine good_bnd ?_ (fun _ => ?_) | split)
theorem good_resultA (E : Env) (t : T AV) (r : ResultVar) : Good (resultA E t r) := by
  cases r with
  | tmp i => exact good_ret _
  | cell a ty => exact good_loadA _ _ _
theorem good_resultsA (E : Env) (t : T AV) : ∀ (l : List ResultVar), Good (resultsA E t l)
  | [] => good_ret _
  | r :: l => good_bnd (good_resultA E t r) fun v => good_bnd (good_resultsA E t l) fun vs => good_ret _
theorem good_takeD : ∀ (l : List Nat), Good (takeD l)
  | [] => good_ret _
  | d :: l => by
    unfold takeD
    refine good_bnd (good_getO _) (fun o => ?_)
    split
    · exact good_bnd (good_setO _ _) (fun _ => good_takeD l)
    · exact good_fail
theorem good_callA (E : Env) (hs : ∀ g m, E.sum g = some m → ∀ a, Good (m a)) : ∀ (f : Nat) (b : Bool) (g : Nat) (args : List AV), Good (callA E f b g args) := by
  intro f
  induction f with
  | zero => intro b g args; exact good_fail
  | succ f ih =>
    intro b g args
    cases b with
    | false =>
      unfold callA
      split
      · rename_i m hm
        exact good_struck (hs g m hm args)
      · split
        · exact good_fail
        · split
          · exact good_fail
          · split
            · exact good_fail
            · refine good_struck (good_bnd (good_codeA E _ ih _ _ _ _ _) (fun r => ?_))
              split
              · exact good_fail
              · refine good_bnd (good_takeD _) (fun _ => good_bnd (good_resultsA E _ _) (fun vs => ?_))
                split <;> exact good_ret _
    | true =>
      unfold callA
      refine good_struck (good_bnd (good_getO _) (fun o => ?_))
      repeat' (first | exact good_ret _ | exact good_fail | exact good_codeA E _ ih _ _ _ _ _ | exact good_getO _ | exact good_setO _ _ | refine good_bnd ?_ (fun _ => ?_) | split)
end Go.Aex
