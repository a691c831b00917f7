/- The law's read where a word is one of the table's: the walk (one number). -/
import Derived.Test.YtefleapekgbpcaaGreatDoorHShR3
import Derived.Test.YtefleapekgbpcaaGreatDoorHShR4
namespace Go.Proofs.YtefleapekgbpcaaGreatDoor.Shl
open Go.RowKit
set_option linter.unusedVariables false
set_option linter.unusedSimpArgs false
set_option maxHeartbeats 40000000 in
set_option maxRecDepth 100000 in
theorem read_one (s : List UInt8) (hs : s.length ≤ 281474976710656) (w : World) (K : Nat) (hk : kindOf (cutB s).1 = some K) (h2 : two K = false) (hpos : 0 < K) :
    Calls Tryz.prog 39 #[str s] w (ReadPost s w) := by
  have hr := (cut_len s).2
  have ha1 := (cut_len (cutB s).2.1).1
  have hr1 := (cut_len (cutB s).2.1).2
  have ha2 := (cut_len (cutB (cutB s).2.1).2.1).1
  have HC := Aside0.mk (fun W => lawCut_calls s hs W)
  have HC1 := Aside0.mk (fun W => lawCut_calls (cutB s).2.1 (by omega) W)
  have HC2 := Aside0.mk (fun W => lawCut_calls (cutB (cutB s).2.1).2.1 (by omega) W)
  have HN1 := Aside0.mk (fun W => lawNumber_calls (cutB (cutB s).2.1).1 (by omega) W)
  have HN2 := Aside0.mk (fun W => lawNumber_calls (cutB (cutB (cutB s).2.1).2.1).1 (by omega) W)
  have HB0 := Aside0.mk (Below.alloc (Below.refl _ w) (Nat.le_refl _) (.cells #[.int .u8 0, .int .i64 0, .int .i64 0, .slice none 0 0] 62 (0, 0)))
  have HR0 := Aside0.mk (show (w.alloc (.cells #[.int .u8 0, .int .i64 0, .int .i64 0, .slice none 0 0] 62 (0, 0))).heap[w.heap.size]? = _ from (below_box (Below.refl _ _)).2.1)
  simp only [str] at HC HC1 HC2 HN1 HN2 ⊢
  obtain ⟨B, hB⟩ : ∃ B : Nat → ByteArray, ∀ k, B k = ⟨(word k).toArray⟩ := ⟨_, fun _ => rfl⟩
  have HWD := Aside0.mk (fun (k : Nat) (hk : k < 9) (W : World) => (show Calls Tryz.prog 83 #[.int .u8 k] W (fun e w' => e = .returned (.tuple #[.string (B k), .int .i64 (nums k)]) ∧ Below W.heap.size W w') from by rw [hB]; exact word_calls k hk W))
  have HQ := Aside0.mk (fun (k : Nat) (hk9 : k < 9) => (show ((B k).toList == (⟨(cutB s).1.toArray⟩ : ByteArray).toList) = decide (K = k) from by
    rw [hB, str_toList, str_toList]
    by_cases h : word k = (cutB s).1
    · rw [← h, (kind_word k hk9).1] at hk; injection hk with hk; subst hk; simp [h]
    · have : K ≠ k := fun e => h (kind_some (e ▸ hk)).2
      simp [h, this]))
  have hK := (kind_some hk).1
  have hP : parseP s = match parseK K (cutB s).2.1 with | none => none | some x => some (K, x) := by unfold parseP; rw [hk]; rfl
  clear hB hk hr ha1 hr1 ha2
  have mixed : Tryz.prog.follows .mixedOrders = true := by kernel_rfl
  have hK0 : K ≠ 0 := by omega
  have hz0 : ((K : Int) == 0) = false := by simpa using hK0
  have hnu : nums K = 1 := by simp [nums, hK, h2]
  have HWK := Aside0.mk (HWD.out K hK)
  rw [hnu] at HWK
  have hk0 : (K == 0) = false := by simpa using hK0
  have hsome : (parseP s).isSome = (!(cutB (cutB s).2.1).2.2 && decide (0 ≤ numV (cutB (cutB s).2.1).1)) ∧ ∀ k i j m, parseP s = some (k, i, j, m) → (K : Int) = k ∧ numV (cutB (cutB s).2.1).1 = i ∧ (0 : Int) = j ∧ m = [] := by
    rw [hP]
    rcases numV_cases (cutB (cutB s).2.1).1 with ⟨hn1, hv1, g1⟩ | ⟨n1, hn1, hv1, g1⟩ <;> cases ho1 : (cutB (cutB s).2.1).2.2 <;> simp [parseK, h2, hn1, ho1, hv1, hk0]
    intro k i j m e1 e2 e3 e4; subst e1 e2 e3 e4; exact ⟨rfl, rfl, rfl, rfl⟩
  have HP := Aside0.mk (fun (W : World) (h : Below w.heap.size w W) => (show ReadPost s w (.returned (.tuple #[.agg #[.int .u8 (K : Int), .int .i64 (numV (cutB (cutB s).2.1).1), .int .i64 0, .slice none 0 0], .bool (!(cutB (cutB s).2.1).2.2 && decide (0 ≤ numV (cutB (cutB s).2.1).1))])) W from ⟨h, (K : Int), numV (cutB (cutB s).2.1).1, 0, none, 0, 0, by rw [hsome.1], fun k i j m e => by
    obtain ⟨e1, e2, e3, e4⟩ := hsome.2 k i j m e
    exact ⟨e1, e2, e3, .inl ⟨rfl, e4⟩⟩⟩))
  clear h2 hK0 hk0 hP hs hnu hsome hpos HC2 HN2
  generalize numV (cutB (cutB s).2.1).1 = v1 at *
  generalize (cutB (cutB s).2.1).2.2 = ok1 at *
  generalize (⟨(cutB (cutB s).2.1).1.toArray⟩ : ByteArray) = A1 at *
  generalize (⟨(cutB (cutB s).2.1).2.1.toArray⟩ : ByteArray) = R1 at *
  generalize (⟨(cutB s).1.toArray⟩ : ByteArray) = A at *
  generalize (⟨(cutB s).2.1.toArray⟩ : ByteArray) = R at *
  generalize (cutB s).2.2 = ok at *
  generalize (⟨s.toArray⟩ : ByteArray) = S at *
  obtain ⟨b1, g1⟩ : ∃ b, decide (0 ≤ v1) = b := ⟨_, rfl⟩
  rw [g1] at HP
  go_enter Tryz.func39, Tryz.ntmps39
  go_wp2_with (go_at_call 41; refine (HC.out _).mono ?_; rintro e w1 ⟨rfl, hb⟩; have HB1 := Aside0.mk (HB0.out.trans (hb.mono HB0.out.size)); have HR1 := Aside0.mk (k_below HR0.out hb); clear hb)
  go_loopw [7] (fun i wr => ∃ k : Nat, k ≤ K ∧ i = .int .u8 k ∧ Aside0 (Below w.heap.size w wr) ∧ Aside0 (wr.heap[w.heap.size]? = some (.cells #[.int .u8 0, .int .i64 0, .int .i64 0, .slice none 0 0] 62 (0, 0)))) (fun i _ => 9 - (intOf i).toNat)
  case atStart => exact ⟨0, Nat.zero_le _, rfl, HB1, HR1⟩
  case round =>
    obtain ⟨k, hkK, rfl, HB, HR⟩ := hrel
    have hk9 : k < 9 := by omega
    have hk' : (k : Int) < 9 := by omega
    have hq := HQ.out k hk9
    rcases (show k < K ∨ k = K from by omega) with hk | rfl
    · simp only [decide_eq_false (show ¬ K = k by omega)] at hq
      clear HQ
      go_wp2_with (go_at_call 83; refine (HWD.out k hk9 _).mono ?_; rintro e w2 ⟨rfl, hb⟩; have HB2 := Aside0.mk (below_trans HB.out hb); have HR2 := Aside0.mk (k_below HR.out hb); clear hb)
      exact ⟨⟨k + 1, by omega, by simp, HB2, HR2⟩, by simp [intOf]; omega⟩
    · simp only [decide_true] at hq
      clear HQ
      cases ok1 <;> cases b1 <;> (
        go_wp2_with (first
          | (go_at_call 83; refine (HWK.out _).mono ?_; rintro e w2 ⟨rfl, hb⟩; have HB2 := Aside0.mk (below_trans HB.out hb); have HR2 := Aside0.mk (k_below HR.out hb); clear hb)
          | (go_at_call 41; with_reducible refine (HC1.out _).mono ?_; rintro e w3 ⟨rfl, hb⟩; have HB3 := Aside0.mk (below_trans HB2.out hb); have hR3 := k_below HR2.out hb; have HR3 := Aside0.mk hR3; have hne : w.heap.size ≠ w3.heap.size := Nat.ne_of_lt (k_lt hR3); have hne2 : w3.heap.size ≠ w.heap.size := hne.symm; have hx := fun o => k_cells (k_alloc hR3 o); clear hb hR3; skip)
          | (go_at_call 42; with_reducible refine (HN1.out _).mono ?_; rintro e w3 ⟨rfl, rfl⟩))
        go_region_o
        go_wp2
        refine bodyPost_ret (res_read (k_put4 (k_alloc HR3.out _) _ _ _ _) rfl) rfl ?_
        exact HP.out _ (Below.drew (((((HB3.out.alloc HB3.out.size _).setCell (Nat.le_refl _) _).setCell (Nat.le_refl _) _).setCell (Nat.le_refl _) _).setCell (Nat.le_refl _) _)))
theorem read_calls (s : List UInt8) (hs : s.length ≤ 281474976710656) (w : World) : Calls Tryz.prog 39 #[str s] w (ReadPost s w) := by
  cases hk : kindOf (cutB s).1 with
  | none => exact read_none s hs w hk
  | some K =>
    cases h2 : two K with
    | true => exact read_two s hs w K hk h2
    | false =>
      rcases Nat.eq_zero_or_pos K with h | h
      · exact read_byte s hs w K hk h2 h
      · exact read_one s hs w K hk h2 h
end Go.Proofs.YtefleapekgbpcaaGreatDoor.Shl
