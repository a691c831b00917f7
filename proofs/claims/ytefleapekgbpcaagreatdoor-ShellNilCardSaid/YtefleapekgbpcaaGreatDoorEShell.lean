/- Lines of the shell: numbers in digits, what stands ahead of a blank, a line's step: the plain law. -/
import Derived.Lib.AtoiAllCases
import Derived.Lib.ItoaMem
import Derived.Lib.Bytealg
namespace Go.Proofs.YtefleapekgbpcaaGreatDoor.Shl
open Go Go.Lib
set_option linter.unusedVariables false
set_option linter.unusedSimpArgs false
/-! ### digits -/
def digs : Nat → List UInt8 → Option Nat
  | a, [] => some a
  | a, c :: r => if 48 ≤ c.toNat ∧ c.toNat ≤ 57 then digs (a * 10 + (c.toNat - 48)) r else none
def numP (s : List UInt8) : Option Nat := if s = [] ∨ 6 < s.length ∨ (1 < s.length ∧ s.head? = some 48) then none else digs 0 s
theorem digs_ge : ∀ {l : List UInt8} {a n : Nat}, digs a l = some n → a ≤ n
  | [], a, n, h => by simp only [digs] at h; cases h; exact Nat.le_refl _
  | c :: r, a, n, h => by
    simp only [digs] at h
    split at h
    · have := digs_ge h; omega
    · cases h
theorem digs_snoc : ∀ (l : List UInt8) (a : Nat) (c : UInt8), digs a (l ++ [c]) = (digs a l).bind fun m => if 48 ≤ c.toNat ∧ c.toNat ≤ 57 then some (m * 10 + (c.toNat - 48)) else none
  | [], a, c => by simp only [List.nil_append, digs, Option.bind]
  | b :: l, a, c => by
    simp only [List.cons_append, digs]
    split
    · exact digs_snoc l _ c
    · rfl
theorem digs_lt : ∀ {l : List UInt8} {a n : Nat}, digs a l = some n → n < (a + 1) * 10 ^ l.length
  | [], a, n, h => by simp only [digs] at h; cases h; simp
  | c :: r, a, n, h => by
    simp only [digs] at h
    split at h
    · have h1 := digs_lt h
      rename_i hc
      have h2 : (a * 10 + (c.toNat - 48) + 1) * 10 ^ r.length ≤ ((a + 1) * 10) * 10 ^ r.length := Nat.mul_le_mul_right _ (by omega)
      have h3 : (a + 1) * 10 ^ (c :: r).length = ((a + 1) * 10) * 10 ^ r.length := by
        rw [List.length_cons, Nat.pow_succ, Nat.mul_assoc, Nat.mul_comm (10 ^ r.length) 10]
      omega
    · cases h
theorem u8_digit (d : Nat) (h : d < 10) : (UInt8.ofNat (48 + d)).toNat = 48 + d := by
  rw [UInt8.toNat_ofNat']; omega
theorem digit_u8 (c : UInt8) (h : 48 ≤ c.toNat) : UInt8.ofNat (48 + (c.toNat - 48)) = c := by
  have : 48 + (c.toNat - 48) = c.toNat := by omega
  rw [this]; simp
theorem digs_dec (u : Nat) : digs 0 (decDigits u) = some u := by
  induction u using Nat.strongRecOn with
  | ind u ih =>
    rw [decDigits]
    split
    · rename_i h
      simp only [digs]
      rw [u8_digit u h, if_pos (by omega)]
      congr 1; omega
    · rename_i h
      rw [digs_snoc, ih (u / 10) (by omega)]
      simp only [Option.bind]
      rw [u8_digit (u % 10) (by omega), if_pos (by omega)]
      congr 1; omega
theorem dec_ne (u : Nat) : decDigits u ≠ [] := by
  rw [decDigits]; split <;> simp
theorem dec_head (u : Nat) (h : 1 ≤ u) : (decDigits u).head? ≠ some 48 := by
  induction u using Nat.strongRecOn with
  | ind u ih =>
    rw [decDigits]
    split
    · rename_i h10
      simp only [List.head?_cons]
      intro e
      injection e with e
      have := u8_digit u h10
      rw [e] at this
      simp at this
      omega
    · rename_i h10
      have h1 := ih (u / 10) (by omega) (by omega)
      cases hd : decDigits (u / 10) with
      | nil => exact absurd hd (dec_ne _)
      | cons c r => rw [hd] at h1; simpa using h1
theorem dec_of_digs : ∀ (m : Nat) (l : List UInt8), l.length = m → l ≠ [] → (1 < l.length → l.head? ≠ some 48) → ∀ n, digs 0 l = some n → l = decDigits n ∧ (l.head? ≠ some 48 → 1 ≤ n)
  | m, l, hm, hne, hhd, n, h => by
    rcases List.eq_nil_or_concat l with rfl | ⟨r, c, rfl⟩
    · exact absurd rfl hne
    · rw [List.concat_eq_append] at h hhd hm ⊢
      rw [digs_snoc] at h
      cases hr : digs 0 r with
      | none => rw [hr] at h; cases h
      | some v =>
        rw [hr] at h
        simp only [Option.bind] at h
        split at h
        · rename_i hc
          injection h with h
          cases r with
          | nil =>
            simp only [digs] at hr
            injection hr with hr
            subst hr
            simp only [Nat.zero_mul, Nat.zero_add] at h
            have hn : n < 10 := by omega
            refine ⟨?_, fun hh => ?_⟩
            · rw [decDigits_one hn, ← h, digit_u8 c hc.1]; rfl
            · simp only [List.nil_append, List.head?_cons, ne_eq, Option.some.injEq] at hh
              have : c.toNat ≠ 48 := fun e => hh (by rw [← UInt8.toNat_inj]; exact e)
              omega
          | cons b r =>
            have hlen : 1 < ((b :: r) ++ [c]).length := by simp
            have hb : (b :: r).head? ≠ some 48 := by simpa using hhd hlen
            obtain ⟨e1, e2⟩ := dec_of_digs (b :: r).length (b :: r) rfl (by simp) (fun _ => hb) v hr
            have hv := e2 hb
            refine ⟨?_, fun _ => by omega⟩
            rw [decDigits, dif_neg (by omega)]
            rw [show n / 10 = v by omega, ← e1, show n % 10 = c.toNat - 48 by omega, digit_u8 c hc.1]
        · cases h
termination_by m => m
decreasing_by all_goals (subst hm; simp)
theorem nd_le (u : Nat) : (decDigits u).length ≤ 6 ↔ u ≤ 999999 := by
  have e : ∀ v, (decDigits v).length = nDigits v := decDigits_length
  rw [e]
  constructor
  · intro h
    have := digs_lt (digs_dec u)
    rw [e] at this
    have h2 : 10 ^ nDigits u ≤ 10 ^ 6 := Nat.pow_le_pow_right (by omega) h
    simp only [Nat.zero_add, Nat.one_mul] at this
    omega
  · intro h
    have n1 : ∀ v, v < 10 → nDigits v = 1 := fun v hv => by rw [nDigits, dif_pos hv]
    have ns : ∀ v k, nDigits (v / 10) ≤ k → 1 ≤ k → nDigits v ≤ k + 1 := fun v k h1 h2 => by
      rw [nDigits]; split <;> omega
    refine ns u 5 (ns _ 4 (ns _ 3 (ns _ 2 (ns _ 1 ?_ (by omega)) (by omega)) (by omega)) (by omega)) (by omega)
    rw [n1 _ (by omega)]
    omega
theorem numP_dec (u : Nat) : numP (decDigits u) = if u ≤ 999999 then some u else none := by
  unfold numP
  split
  · rename_i h
    rw [if_neg]
    intro hu
    have h6 := (nd_le u).2 hu
    rcases h with h | h | ⟨h1, h2⟩
    · exact dec_ne u h
    · omega
    · by_cases h0 : 1 ≤ u
      · exact dec_head u h0 h2
      · have : u = 0 := by omega
        subst this
        rw [decDigits_one (by omega)] at h1
        simp at h1
  · rename_i h
    rw [digs_dec, if_pos]
    rw [← nd_le]
    omega
theorem numP_some {s : List UInt8} {n : Nat} (h : numP s = some n) : s = decDigits n ∧ n ≤ 999999 := by
  have h0 := h
  unfold numP at h
  split at h
  · cases h
  · rename_i hc
    have e := (dec_of_digs _ s rfl (fun e => hc (.inl e)) (fun h1 h2 => hc (.inr (.inr ⟨h1, h2⟩))) n h).1
    refine ⟨e, ?_⟩
    rw [← nd_le, ← e]
    omega
theorem parse_digs : ∀ {l : List UInt8} {a n : Nat}, digs a l = some n → n < 10 ^ 18 → parseUint10 a l = .ok n
  | [], a, n, h, _ => by simp only [digs] at h; cases h; rfl
  | c :: r, a, n, h, hn => by
    simp only [digs] at h
    split at h
    · rename_i hc
      have hg := digs_ge h
      simp only [parseUint10]
      rw [if_pos hc, if_neg (by omega), if_neg (by omega)]
      exact parse_digs h hn
    · cases h
theorem atoi_dec (n : Nat) (h : n ≤ 999999) : atoiAll (decDigits n) = .ok (n : Int) := by
  have hm : parseMag (decDigits n) = .ok n := by
    unfold parseMag
    rw [if_neg (dec_ne n)]
    exact parse_digs (digs_dec n) (by omega)
  cases hd : decDigits n with
  | nil => exact absurd hd (dec_ne n)
  | cons c r =>
    rw [hd] at hm
    have hc : 48 ≤ c.toNat := by
      have := digs_dec n
      rw [hd] at this
      simp only [digs] at this
      split at this
      · rename_i h; exact h.1
      · cases this
    rw [atoiAll_plain c r (by omega) (by omega), hm]
    unfold signless
    simp only
    rw [if_neg (by omega)]
/-- The shell's number, by Atoi and Itoa. -/
def fineB (s : List UInt8) : Bool := match atoiAll s with
  | .ok v => decide (0 ≤ v) && (decide (s.length ≤ 6) && decide (itoa v = s))
  | _ => false
theorem fine_iff (s : List UInt8) : fineB s = (numP s).isSome ∧ ∀ v n, atoiAll s = .ok v → numP s = some n → v = (n : Int) := by
  cases hn : numP s with
  | some n =>
    obtain ⟨e, h6⟩ := numP_some hn
    have ha := atoi_dec n h6
    rw [← e] at ha
    refine ⟨?_, fun v n' h1 h2 => ?_⟩
    · unfold fineB
      rw [ha]
      have : s.length ≤ 6 := by rw [e, nd_le]; exact h6
      simp [this, itoa_nonneg, ← e]
    · rw [ha] at h1; injection h1 with h1; injection h2 with h2; omega
  | none =>
    refine ⟨?_, fun v n' _ h2 => by cases h2⟩
    unfold fineB
    cases ha : atoiAll s with
    | ok v =>
      simp only [Option.isSome]
      cases hd : (decide (0 ≤ v) && (decide (s.length ≤ 6) && decide (itoa v = s))) with
      | false => rfl
      | true =>
        simp only [Bool.and_eq_true, decide_eq_true_eq] at hd
        obtain ⟨h1, h2, h3⟩ := hd
        have e : v = (v.toNat : Int) := by omega
        rw [e, itoa_nonneg] at h3
        have := numP_dec v.toNat
        rw [if_pos ((nd_le _).1 (by rw [h3]; exact h2)), h3, hn] at this
        cases this
    | range => rfl
    | _ => rfl
/-! ### blanks -/
def cutB : List UInt8 → List UInt8 × List UInt8 × Bool
  | [] => ([], [], false)
  | b :: l => if b = 32 then ([], l, true) else (b :: (cutB l).1, (cutB l).2.1, (cutB l).2.2)
theorem cut_miss : ∀ {l : List UInt8}, (∀ b ∈ l, b ≠ 32) → cutB l = (l, [], false)
  | [], _ => rfl
  | b :: l, h => by
    rw [cutB, if_neg (h b (List.mem_cons_self ..)), cut_miss fun x hx => h x (List.mem_cons_of_mem _ hx)]
theorem cut_hit : ∀ {a : List UInt8} (r : List UInt8), (∀ b ∈ a, b ≠ 32) → cutB (a ++ 32 :: r) = (a, r, true)
  | [], r, _ => by simp [cutB]
  | b :: a, r, h => by
    rw [List.cons_append, cutB, if_neg (h b (List.mem_cons_self ..)), cut_hit r fun x hx => h x (List.mem_cons_of_mem _ hx)]
theorem cut_cases (l : List UInt8) : (cutB l = (l, [], false) ∧ ∀ b ∈ l, b ≠ 32) ∨ ∃ a r, l = a ++ 32 :: r ∧ (∀ b ∈ a, b ≠ 32) ∧ cutB l = (a, r, true) := by
  induction l with
  | nil => exact .inl ⟨rfl, fun b hb => nomatch hb⟩
  | cons b l ih =>
    by_cases hb : b = 32
    · subst hb
      exact .inr ⟨[], l, rfl, (fun b hb => by cases hb), by simp [cutB]⟩
    · rcases ih with ⟨h1, h2⟩ | ⟨a, r, rfl, h2, h3⟩
      · refine .inl ⟨by rw [cutB, if_neg hb, h1], fun x hx => ?_⟩
        rcases List.mem_cons.1 hx with rfl | hx
        · exact hb
        · exact h2 x hx
      · refine .inr ⟨b :: a, r, rfl, fun x hx => ?_, by rw [cutB, if_neg hb, h3]⟩
        rcases List.mem_cons.1 hx with rfl | hx
        · exact hb
        · exact h2 x hx
theorem idx_miss : ∀ {l : List UInt8}, (∀ b ∈ l, b ≠ 32) → indexByte l 32 = -1
  | [], _ => rfl
  | b :: l, h => by
    rw [indexByte, if_neg (by simpa using h b (List.mem_cons_self ..)), idx_miss fun x hx => h x (List.mem_cons_of_mem _ hx)]
    rfl
theorem idx_hit : ∀ {a : List UInt8} (r : List UInt8), (∀ b ∈ a, b ≠ 32) → indexByte (a ++ 32 :: r) 32 = a.length
  | [], r, _ => by simp [indexByte]
  | b :: a, r, h => by
    rw [List.cons_append, indexByte, if_neg (by simpa using h b (List.mem_cons_self ..)), idx_hit r fun x hx => h x (List.mem_cons_of_mem _ hx)]
    rw [if_neg (by simp <;> omega)]
    simp
theorem dec_digit {u : Nat} : ∀ b ∈ decDigits u, b ≠ 32 := by
  have key : ∀ (l : List UInt8) (a n : Nat), digs a l = some n → ∀ b ∈ l, b ≠ 32 := by
    intro l
    induction l with
    | nil => intro a n _ b hb; cases hb
    | cons c r ih =>
      intro a n h b hb
      simp only [digs] at h
      split at h
      · rename_i hc
        rcases List.mem_cons.1 hb with rfl | hb
        · rintro rfl; simp at hc
        · exact ih _ _ h b hb
      · cases h
  exact key _ _ _ (digs_dec u)
/-! ### a line's step -/
def word : Nat → List UInt8
  | 0 => [98, 99, 97, 115, 116]
  | 1 => [116, 105, 99, 107]
  | 2 => [100, 101, 108, 105, 118, 101, 114]
  | 3 => [100, 114, 111, 112]
  | 4 => [100, 111, 117, 98, 108, 101]
  | 5 => [116, 117, 114, 110]
  | 6 => [99, 117, 116]
  | 7 => [106, 111, 105, 110]
  | 8 => [99, 97, 108, 109]
  | _ => []
def two (k : Nat) : Bool := k == 5 || (k == 6 || k == 7)
def kindOf (w : List UInt8) : Option Nat := (List.range 9).find? fun k => word k == w
def parseK (k : Nat) (rest : List UInt8) : Option (Nat × Nat × List UInt8) := match numP (cutB rest).1 with
  | none => none
  | some i => match two k with
    | true => match (cutB rest).2.2 with
      | false => none
      | true => match numP (cutB (cutB rest).2.1).1 with
        | none => none
        | some j => match (cutB (cutB rest).2.1).2.2 with
          | true => none
          | false => some (i, j, [])
    | false => match k == 0, (cutB rest).2.2 with
      | true, true => some (i, 0, (cutB rest).2.1)
      | false, false => some (i, 0, [])
      | _, _ => none
def parseP (t : List UInt8) : Option (Nat × Nat × Nat × List UInt8) := match kindOf (cutB t).1 with
  | none => none
  | some k => match parseK k (cutB t).2.1 with
    | none => none
    | some x => some (k, x)
theorem kind_word : ∀ k, k < 9 → kindOf (word k) = some k ∧ (∀ b ∈ word k, b ≠ 32) := by decide
theorem kind_some {w : List UInt8} {k : Nat} (h : kindOf w = some k) : k < 9 ∧ word k = w := by
  unfold kindOf at h
  have h1 := List.find?_some h
  have h2 := List.mem_of_find?_eq_some h
  exact ⟨by simpa using h2, by simpa using h1⟩
theorem kind_none {w : List UInt8} (h : kindOf w = none) : ∀ k, k < 9 → word k ≠ w := by
  unfold kindOf at h
  rw [List.find?_eq_none] at h
  intro k hk e
  exact h k (by simpa using hk) (by simpa using e)
theorem parse_word (k : Nat) (hk : k < 9) (r : List UInt8) : parseP (word k ++ 32 :: r) = match parseK k r with
    | none => none
    | some x => some (k, x) := by
  obtain ⟨h1, h2⟩ := kind_word k hk
  unfold parseP
  rw [cut_hit r h2]
  simp only [h1]
def lineOf (k i j : Nat) (m : List UInt8) : List UInt8 := word k ++ 32 :: (decDigits i ++ match two k with
  | true => 32 :: decDigits j
  | false => match k == 0 with
    | true => 32 :: m
    | false => [])
theorem parse_line (k i j : Nat) (m : List UInt8) (hk : k < 9) (hj : two k = false → j = 0) (hm : k ≠ 0 → m = []) :
    parseP (lineOf k i j m) = if i ≤ 999999 ∧ j ≤ 999999 then some (k, i, j, m) else none := by
  unfold lineOf
  rw [parse_word k hk]
  unfold parseK
  cases h2 : two k with
  | true =>
    have hk0 : k ≠ 0 := by rintro rfl; simp [two] at h2
    obtain rfl := hm hk0
    simp only
    rw [cut_hit _ dec_digit]
    simp only [numP_dec, cut_miss dec_digit]
    by_cases hi : i ≤ 999999
    · by_cases hj : j ≤ 999999
      · simp [hi, hj]
      · simp [hi, hj]
    · simp [hi]
  | false =>
    obtain rfl := hj h2
    simp only
    cases h0 : k == 0 with
    | true =>
      simp only
      rw [cut_hit _ dec_digit]
      simp only [numP_dec]
      by_cases hi : i ≤ 999999
      · simp [hi]
      · simp [hi]
    | false =>
      obtain rfl := hm (by simpa using h0)
      simp only [List.append_nil]
      rw [cut_miss dec_digit]
      simp only [numP_dec]
      by_cases hi : i ≤ 999999
      · simp [hi]
      · simp [hi]
/-- Numbers: what three lines say of them. -/
theorem numbers (s : List UInt8) (h : ∀ b ∈ s, b ≠ 32) :
    parseP ([116, 105, 99, 107, 32] ++ s) = (numP s).map (fun n => (1, n, 0, [])) ∧
    parseP ([99, 117, 116, 32, 49, 32] ++ s) = (numP s).map (fun n => (6, 1, n, [])) ∧
    parseP ([98, 99, 97, 115, 116, 32] ++ s ++ [32]) = (numP s).map (fun n => (0, n, 0, [])) := by
  refine ⟨?_, ?_, ?_⟩
  · have := parse_word 1 (by decide) s
    rw [show word 1 ++ 32 :: s = [116, 105, 99, 107, 32] ++ s from rfl] at this
    rw [this]
    unfold parseK
    rw [cut_miss h]
    cases numP s <;> rfl
  · have := parse_word 6 (by decide) ([49] ++ 32 :: s)
    rw [show word 6 ++ 32 :: ([49] ++ 32 :: s) = [99, 117, 116, 32, 49, 32] ++ s from rfl] at this
    rw [this]
    unfold parseK
    rw [cut_hit (a := [49]) s (by decide)]
    simp only [cut_miss h, show numP [49] = some 1 from by decide]
    cases numP s <;> rfl
  · have := parse_word 0 (by decide) (s ++ 32 :: [])
    rw [show word 0 ++ 32 :: (s ++ 32 :: []) = [98, 99, 97, 115, 116, 32] ++ s ++ [32] from by simp [word]] at this
    rw [this]
    unfold parseK
    rw [cut_hit (a := s) [] h]
    cases numP s <;> rfl
end Go.Proofs.YtefleapekgbpcaaGreatDoor.Shl
