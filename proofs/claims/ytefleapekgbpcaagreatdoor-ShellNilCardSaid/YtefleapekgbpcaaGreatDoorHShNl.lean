/- shell.Line of a nil moot, folkmootlaw21.ShellNil: the walks. -/
import Derived.Test.YtefleapekgbpcaaGreatDoorHShR5
import Derived.Test.YtefleapekgbpcaaGreatDoorHShN
namespace Go.Proofs.YtefleapekgbpcaaGreatDoor.Shl
open Go.RowKit
set_option linter.unusedVariables false
set_option linter.unusedSimpArgs false
set_option maxHeartbeats 4000000 in
set_option maxRecDepth 100000 in
theorem Node_nil (i : Int) (w : World) : Calls Tryz.prog 79 #[.pointer none, .int .i64 i] w fun e w' => e = .returned (.pointer none) ∧ w' = w := by
  go_enter Tryz.func79, Tryz.ntmps79
  go_wp2
  go_ret
  exact ⟨rfl, rfl⟩
set_option maxHeartbeats 4000000 in
set_option maxRecDepth 100000 in
theorem Do_nil (a b c : Int) (ad : Option Addr) (dl dc : Nat) (w : World) : Calls Tryz.prog 78 #[.pointer none, .agg #[.int .u8 a, .int .i64 b, .int .i64 c, .slice ad dl dc]] w fun e w' => e = .returned (.int .i64 6) ∧ Below w.heap.size w w' := by
  have HB := Aside0.mk (fun o => Below.alloc (Below.refl _ w) (Nat.le_refl _) o)
  go_enter Tryz.func78, Tryz.ntmps78
  go_wp2
  go_ret
  exact ⟨rfl, HB.out _⟩
def isAsk (s : List UInt8) : Bool := (cutB s).2.2 && (((cutB s).1 == [118, 105, 101, 119]) || ((cutB s).1 == [103, 111, 116]))
def eN (n : UInt8) : List UInt8 := [101, 114, 114, 111, 114, 32, n]
def lineNil (s : List UInt8) : List UInt8 := if isAsk s = true then eN 49 else if 200 < s.length then eN 50 else match parseP s with
  | none => eN 52
  | some _ => eN 54
set_option maxHeartbeats 4000000 in
set_option maxRecDepth 100000 in
theorem Line_nil (s : List UInt8) (hs : s.length ≤ 140737488355328) (w : World) (hT : Tabs w) : Calls Tryz.prog 40 #[.pointer none, str s] w fun e w' => e = .returned (str (lineNil s)) ∧ Below w.heap.size w w' := by
  have hr := (cut_len s).2
  have HC := Aside0.mk (fun W => Cut_calls s (by omega) W)
  have HN := Aside0.mk (fun (W : World) (h : Below w.heap.size w W) => (number_calls (cutB s).2.1 (by omega) W (hT.below h)).mono (R' := fun e w' => ∃ (v : Int) (b : Bool), e = .returned (.tuple #[.int .i64 v, .bool b]) ∧ Below W.heap.size W w') fun e w' ⟨v, a1, _, a2⟩ => ⟨v, _, a1, a2⟩)
  have ev : ((⟨(cutB s).1.toArray⟩ : ByteArray).toList == [118, 105, 101, 119]) = ((cutB s).1 == [118, 105, 101, 119]) := by rw [str_toList]
  have eg : ((⟨(cutB s).1.toArray⟩ : ByteArray).toList == [103, 111, 116]) = ((cutB s).1 == [103, 111, 116]) := by rw [str_toList]
  have hask : isAsk s = ((cutB s).2.2 && (((cutB s).1 == [118, 105, 101, 119]) || ((cutB s).1 == [103, 111, 116]))) := rfl
  have HT := Aside0.mk hT
  have HP := Aside0.mk (fun (W : World) (h : Below w.heap.size w W) => Parse_calls s (by omega) W (hT.below h))
  simp only [str] at HC HN HP ⊢
  cases hok : (cutB s).2.2 && (((cutB s).1 == [118, 105, 101, 119]) || ((cutB s).1 == [103, 111, 116])) with
  | true =>
    have hl : lineNil s = eN 49 := by unfold lineNil; rw [if_pos (hask.trans hok)]
    rw [hl]
    simp only [eN]
    simp only [Bool.and_eq_true] at hok
    obtain ⟨h1, h2⟩ := hok
    rw [h1] at HC
    generalize hv : ((cutB s).1 == [118, 105, 101, 119]) = bv at *
    generalize hg : ((cutB s).1 == [103, 111, 116]) = bg at *
    clear hask h1 hT HP hs hr hl hv hg
    generalize (⟨(cutB s).1.toArray⟩ : ByteArray) = A at *
    generalize (⟨(cutB s).2.1.toArray⟩ : ByteArray) = R at *
    generalize (⟨s.toArray⟩ : ByteArray) = S at *
    cases bv <;> cases bg <;> first | (exact absurd h2 (by decide)) | (
      go_enter Tryz.func40, Tryz.ntmps40
      go_wp2_with (first
        | (go_at_call 81; refine (HC.out _).mono ?_; rintro e w1 ⟨rfl, hb⟩; have HB1 := Aside0.mk hb; clear hb)
        | (go_at_call 82; refine (HN.out _ HB1.out).mono ?_; rintro e w2 ⟨v, fb, rfl, hb⟩; have HB2 := Aside0.mk (below_trans HB1.out hb); cases fb <;> clear hb)
        | (go_at_call 79; refine (Node_nil _ _).mono ?_; rintro e w2 ⟨rfl, rfl⟩))
      all_goals go_wp2_with (go_at_call 79; refine (Node_nil _ _).mono ?_; rintro e w2 ⟨rfl, rfl⟩)
      all_goals go_ret
      all_goals exact ⟨rfl, HB2.out⟩)
  | false =>
    have hask0 : isAsk s = false := hask.trans hok
    have hnot : ∀ x : Bool, (cutB s).2.2 = x → x = false ∨ (((cutB s).1 == [118, 105, 101, 119]) = false ∧ ((cutB s).1 == [103, 111, 116]) = false) := fun x hx => by
      rw [hx] at hok
      cases x
      · exact .inl rfl
      · simp only [Bool.true_and, Bool.or_eq_false_iff] at hok; exact .inr hok
    have key : ∃ (er : Int) (q : UInt8), lineNil s = eN q ∧ (∀ W : World, Below w.heap.size w W → Calls Tryz.prog 38 #[.string ⟨s.toArray⟩] W fun e w' => ∃ (a b c : Int) (ad : Option Addr) (dl dc : Nat), e = .returned (.tuple #[.agg #[.int .u8 a, .int .i64 b, .int .i64 c, .slice ad dl dc], .int .i64 er]) ∧ Below W.heap.size W w') ∧ ((er = 2 ∧ q = 50) ∨ (er = 4 ∧ q = 52) ∨ (er = 0 ∧ q = 54)) := by
      by_cases h200 : 200 < s.length
      · refine ⟨2, 50, by unfold lineNil; rw [if_neg (by rw [hask0]; decide), if_pos h200], fun W hW => (HP.out W hW).mono fun e w' ⟨a1, a2⟩ => ?_, .inl ⟨rfl, rfl⟩⟩
        rw [if_pos h200] at a2
        exact ⟨0, 0, 0, none, 0, 0, a2, a1⟩
      · cases hp : parseP s with
        | none =>
          refine ⟨4, 52, by unfold lineNil; rw [if_neg (by rw [hask0]; decide), if_neg h200, hp], fun W hW => (HP.out W hW).mono fun e w' ⟨a1, a2⟩ => ?_, .inr (.inl ⟨rfl, rfl⟩)⟩
          rw [if_neg h200, hp] at a2
          exact ⟨0, 0, 0, none, 0, 0, a2, a1⟩
        | some x =>
          obtain ⟨k, i, j, m⟩ := x
          refine ⟨0, 54, by unfold lineNil; rw [if_neg (by rw [hask0]; decide), if_neg h200, hp], fun W hW => (HP.out W hW).mono fun e w' ⟨a1, a2⟩ => ?_, .inr (.inr ⟨rfl, rfl⟩)⟩
          rw [if_neg h200, hp] at a2
          obtain ⟨M, a3, a4⟩ := a2
          split at a4
          · obtain ⟨b, c, cs, t, fr, rfl, _⟩ := a4
            exact ⟨_, _, _, _, _, _, a3, a1⟩
          · subst a4
            exact ⟨_, _, _, _, _, _, a3, a1⟩
    obtain ⟨er, q, hl, HPK, hq⟩ := key
    have HPK := Aside0.mk HPK
    have HI := Aside0.mk (fun (n : Int) (h0 : -9223372036854775808 ≤ n) (h1 : n ≤ 9223372036854775807) (W : World) (hW : Below w.heap.size w W) => ((Tryz.strconv_Itoa n h0 h1 W (hT.below hW).p10).mono (R' := fun e w' => e = .returned (.string ⟨(Lib.itoa n).toArray⟩) ∧ Below w.heap.size w w') fun e w' h => ⟨h.1, by
      obtain ⟨_, k, os, rfl⟩ := h
      exact below_trans hW (Lib.below_grow _ _ (Nat.le_refl _) _ _)⟩))
    rw [hl]
    simp only [eN]
    have hn := hnot _ rfl
    generalize hv : ((cutB s).1 == [118, 105, 101, 119]) = bv at *
    generalize hg : ((cutB s).1 == [103, 111, 116]) = bg at *
    generalize (cutB s).2.2 = ok at *
    clear hask hask0 hnot hok hT HP hs hr hl hv hg HN HT
    generalize (⟨(cutB s).1.toArray⟩ : ByteArray) = A at *
    generalize (⟨(cutB s).2.1.toArray⟩ : ByteArray) = R at *
    generalize (⟨s.toArray⟩ : ByteArray) = S at *
    have ei : ∀ n : Nat, n < 10 → Lib.itoa (n : Int) = [UInt8.ofNat (48 + n)] := fun n hn => (Lib.itoa_nonneg n).trans (Lib.decDigits_one hn)
    have HI2 := Aside0.mk (HI.out 2 (by decide) (by decide))
    have HI4 := Aside0.mk (HI.out 4 (by decide) (by decide))
    have HI6 := Aside0.mk (HI.out 6 (by decide) (by decide))
    rw [show Lib.itoa 2 = [50] from ei 2 (by decide)] at HI2
    rw [show Lib.itoa 4 = [52] from ei 4 (by decide)] at HI4
    rw [show Lib.itoa 6 = [54] from ei 6 (by decide)] at HI6
    clear HI ei
    have e2 : ((⟨#[101, 114, 114, 111, 114, 32]⟩ : ByteArray) ++ (⟨#[50]⟩ : ByteArray)) = ⟨#[101, 114, 114, 111, 114, 32, 50]⟩ := str_append [101, 114, 114, 111, 114, 32] [50]
    have e4 : ((⟨#[101, 114, 114, 111, 114, 32]⟩ : ByteArray) ++ (⟨#[52]⟩ : ByteArray)) = ⟨#[101, 114, 114, 111, 114, 32, 52]⟩ := str_append [101, 114, 114, 111, 114, 32] [52]
    have e6 : ((⟨#[101, 114, 114, 111, 114, 32]⟩ : ByteArray) ++ (⟨#[54]⟩ : ByteArray)) = ⟨#[101, 114, 114, 111, 114, 32, 54]⟩ := str_append [101, 114, 114, 111, 114, 32] [54]
    have HE2 := Aside0.mk e2
    have HE4 := Aside0.mk e4
    have HE6 := Aside0.mk e6
    clear e2 e4 e6
    cases ok <;> cases bv <;> cases bg <;> first | (exact absurd hn (by decide)) | (
      clear hn
      rcases hq with ⟨rfl, rfl⟩ | ⟨rfl, rfl⟩ | ⟨rfl, rfl⟩ <;> (
        go_enter Tryz.func40, Tryz.ntmps40
        go_wp2_with (first
          | (go_at_call 81; refine (HC.out _).mono ?_; rintro e w1 ⟨rfl, hb⟩; have HB1 := Aside0.mk hb; clear hb)
          | (go_at_call 38; refine (HPK.out _ HB1.out).mono ?_; rintro e w2 ⟨a, b, c, ad, dl, dc, rfl, hb⟩; have HB2 := Aside0.mk (below_trans HB1.out hb); have HB3 := Aside0.mk ((below_trans HB1.out hb).alloc (below_trans HB1.out hb).size (.cells #[.int .u8 a, .int .i64 b, .int .i64 c, .slice ad dl dc] 62 (0, 0))); clear hb)
          | (go_at_call 78; refine (Do_nil _ _ _ _ _ _ _).mono ?_; rintro e w3 ⟨rfl, hb⟩; have HB3 := Aside0.mk (below_trans HB3.out hb); clear hb)
          | (go_at_call 85; refine (HI2.out _ HB3.out).mono ?_; rintro e w4 ⟨rfl, hb⟩; have HB4 := Aside0.mk hb; clear hb)
          | (go_at_call 85; refine (HI4.out _ HB3.out).mono ?_; rintro e w4 ⟨rfl, hb⟩; have HB4 := Aside0.mk hb; clear hb)
          | (go_at_call 85; refine (HI6.out _ HB3.out).mono ?_; rintro e w4 ⟨rfl, hb⟩; have HB4 := Aside0.mk hb; clear hb))
        go_ret
        refine ⟨?_, HB4.out⟩
        first | exact congrArg (fun x => Ending.returned (Value.string x)) HE2.out | exact congrArg (fun x => Ending.returned (Value.string x)) HE4.out | exact congrArg (fun x => Ending.returned (Value.string x)) HE6.out))
set_option maxHeartbeats 4000000 in
set_option maxRecDepth 100000 in
theorem shellNil (s : List UInt8) (hs : s.length ≤ 140737488355328) (w : World) (hT : Tabs w) (haw : Aw w) :
    Calls Tryz.prog 7 #[str s] w (fun e w' => e = .returned (.bool true) ∧ Below w.heap.size w w') := by
  have hz : (⟨s.toArray⟩ : ByteArray).size = s.length := str_size s
  have HA := Aside0.mk haw
  have HA0 := Aside0.mk (haw w (Below.refl _ _))
  by_cases h1000 : 1000 < s.length
  · have q1 : decide (1000 < (((⟨s.toArray⟩ : ByteArray).size : Nat) : Int)) = true := by simp; omega
    clear hz hs hT h1000 haw
    simp only [str]
    generalize (⟨s.toArray⟩ : ByteArray) = S at *
    go_enter Tryz.func7, Tryz.ntmps7
    go_upto_region 2 with (go_at_call 37; refine HA0.out.mono ?_; rintro e w1 ⟨rfl, hb⟩; have HB1 := Aside0.mk hb; clear hb)
    go_wp2_with (go_at_call 37; refine (HA.out _ HB1.out).mono ?_; rintro e w2 ⟨rfl, hb⟩; have HB2 := Aside0.mk (below_trans HB1.out hb); clear hb)
    go_ret
    exact ⟨rfl, HB2.out⟩
  have q1 : decide (1000 < (((⟨s.toArray⟩ : ByteArray).size : Nat) : Int)) = false := by simp; omega
  have HL := Aside0.mk (fun (W : World) (h : Below w.heap.size w W) => Line_nil s hs W (hT.below h))
  have HC := Aside0.mk (fun W => lawCut_calls s (by omega) W)
  have HR := Aside0.mk (fun W : World => (read_calls s (by omega) W).mono (R' := fun e w' => ∃ (a b c : Int) (ad : Option Addr) (dl dc : Nat), e = .returned (.tuple #[.agg #[.int .u8 a, .int .i64 b, .int .i64 c, .slice ad dl dc], .bool (parseP s).isSome]) ∧ Below W.heap.size W w') fun e w' ⟨a1, a, b, c, ad, dl, dc, a2, _⟩ => ⟨a, b, c, ad, dl, dc, a2, a1⟩)
  have ev : ((⟨(cutB s).1.toArray⟩ : ByteArray).toList == [118, 105, 101, 119]) = ((cutB s).1 == [118, 105, 101, 119]) := by rw [str_toList]
  have eg : ((⟨(cutB s).1.toArray⟩ : ByteArray).toList == [103, 111, 116]) = ((cutB s).1 == [103, 111, 116]) := by rw [str_toList]
  have hask : isAsk s = ((cutB s).2.2 && (((cutB s).1 == [118, 105, 101, 119]) || ((cutB s).1 == [103, 111, 116]))) := rfl
  have key : lineNil s = if isAsk s = true then eN 49 else if decide (200 < s.length) = true then eN 50 else match (parseP s).isSome with
    | false => eN 52
    | true => eN 54 := by
    simp only [decide_eq_true_eq]
    unfold lineNil
    split
    · rfl
    · split
      · rfl
      · cases parseP s <;> rfl
  rw [hask] at key
  have q2 : decide (200 < (((⟨s.toArray⟩ : ByteArray).size : Nat) : Int)) = decide (200 < s.length) := by rw [hz]; simp; omega
  simp only [str, key] at HL HC HR ⊢
  generalize hlong : decide (200 < s.length) = long at *
  generalize ((cutB s).1 == [118, 105, 101, 119]) = bv at *
  generalize ((cutB s).1 == [103, 111, 116]) = bg at *
  generalize (cutB s).2.2 = ok at *
  generalize (parseP s).isSome = is at *
  clear hask key hT haw hs hz h1000 hlong
  generalize (⟨(cutB s).1.toArray⟩ : ByteArray) = A at *
  generalize (⟨(cutB s).2.1.toArray⟩ : ByteArray) = R at *
  generalize (⟨s.toArray⟩ : ByteArray) = S at *
  cases ok <;> cases bv <;> cases bg <;> cases long <;> cases is <;> (
    simp only [Bool.false_and, Bool.true_and, Bool.or_true, Bool.true_or, Bool.or_false, Bool.false_eq_true, if_false, if_true, eN] at HL
    go_enter Tryz.func7, Tryz.ntmps7
    go_wp2_with (first
      | (go_at_call 37; refine HA0.out.mono ?_; rintro e w1 ⟨rfl, hb⟩; have HB1 := Aside0.mk hb; clear hb)
      | (go_at_call 40; refine (HL.out _ HB1.out).mono ?_; rintro e w2 ⟨rfl, hb⟩; have HB2 := Aside0.mk (below_trans HB1.out hb); clear hb)
      | (go_at_call 41; refine (HC.out _).mono ?_; rintro e w3 ⟨rfl, hb⟩; have HB3 := Aside0.mk (below_trans HB2.out hb); have HB4 := HB3; clear hb)
      | (go_at_call 39; refine (HR.out _).mono ?_; rintro e w4 ⟨a, b, c, ad, dl, dc, rfl, hb⟩; have HB4 := Aside0.mk ((below_trans HB3.out hb).alloc (below_trans HB3.out hb).size (.cells #[.int .u8 a, .int .i64 b, .int .i64 c, .slice ad dl dc] 62 (0, 0))); clear hb))
    go_ret
    exact ⟨rfl, HB4.out⟩)
end Go.Proofs.YtefleapekgbpcaaGreatDoor.Shl
