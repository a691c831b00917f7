/- The shell's numbers: the law's number, shell.number. -/
import Derived.Test.YtefleapekgbpcaaGreatDoorHShA
import Derived.Lib.SmallJoins
import Derived.Deep.DeepCutAuto
import Derived.Deep.CutBlock
import Derived.Deep.RegionHeld3
import Derived.IntWalk
import Derived.Lib.AppendIntMem
import Derived.Laws.Strings
namespace Go.Proofs.YtefleapekgbpcaaGreatDoor.Shl
open Go.RowKit
set_option linter.unusedVariables false
set_option linter.unusedSimpArgs false
/-- The tables as the program's text lays them. -/
structure Tabs (w : World) : Prop where
  p10 : Lib.TabIs Tryz.prog w "internal/strconv.uint64pow10" .u64 Lib.pow10Tab
  syn : ∃ tp p, w.cell? ⟨5, 0, none⟩ = some (.iface tp p)
  rng : ∃ tp p, w.cell? ⟨6, 0, none⟩ = some (.iface tp p)
  wds : ∀ k, k < 9 → w.cell? ⟨0, k, none⟩ = some (str (word k))
  nums : ∀ k, k < 9 → w.cell? ⟨1, k, none⟩ = some (.int .i64 (if two k then 2 else 1))
theorem gPow : Tryz.prog.globalNamed "internal/strconv.uint64pow10" = some 4 := by kernel_rfl
theorem Tabs.below {w w' : World} (h : Tabs w) (hb : Below w.heap.size w w') : Tabs w' := by
  have key : ∀ {g k : Nat} {v : Value}, w.cell? ⟨g, k, none⟩ = some v → w'.cell? ⟨g, k, none⟩ = some v := fun {g k v} hc =>
    (hb.cell (show (⟨g, k, none⟩ : Addr).block < w.heap.size from Lib.lt_of_cell hc)).trans hc
  obtain ⟨h1, ⟨a, b, h2⟩, ⟨c, d, h3⟩, h4, h5⟩ := h
  exact ⟨Joins.tab_stays gPow h1 hb (Nat.le_refl _), ⟨a, b, key h2⟩, ⟨c, d, key h3⟩, fun k hk => key (h4 k hk), fun k hk => key (h5 k hk)⟩
theorem digs_cons {a : Nat} {c : UInt8} {r : List UInt8} : digs a (c :: r) = if 48 ≤ c.toNat ∧ c.toNat ≤ 57 then digs (a * 10 + (c.toNat - 48)) r else none := rfl
def numV (s : List UInt8) : Int := match numP s with
  | none => -1
  | some n => n
set_option maxHeartbeats 4000000 in
set_option maxRecDepth 100000 in
theorem lawNumber_calls (s : List UInt8) (hs : s.length ≤ 281474976710656) (w : World) :
    Calls Tryz.prog 42 #[str s] w fun e w' => e = .returned (.int .i64 (numV s)) ∧ w' = w := by
  have hz : (⟨s.toArray⟩ : ByteArray).size = s.length := str_size s
  by_cases h0 : s = []
  · subst h0
    have : numV [] = -1 := rfl
    rw [this]
    go_enter Tryz.func42, Tryz.ntmps42
    go_wp2
    go_ret
    exact ⟨rfl, rfl⟩
  · have hne : (⟨s.toArray⟩ : ByteArray).toList.isEmpty = false := by
      rw [ByteArray.toList_eq]
      cases s with | nil => exact absurd rfl h0 | cons => rfl
    have HG := Aside0.mk (fun (k : Nat) (hk : k < (⟨s.toArray⟩ : ByteArray).size) => (show ∃ b, (⟨s.toArray⟩ : ByteArray)[k] = b ∧ s.drop k = b :: s.drop (k + 1) from
      ⟨s[k]'(by omega), str_get s k hk (by omega), List.drop_eq_getElem_cons (by omega)⟩))
    have hpos : 0 < s.length := by cases s with | nil => exact absurd rfl h0 | cons => simp
    have hhead : ∀ hk : 0 < (⟨s.toArray⟩ : ByteArray).size, s.head? = some ((⟨s.toArray⟩ : ByteArray)[0]) := fun hk => by
      rw [str_get s 0 hk hpos]; cases s with | nil => exact absurd rfl h0 | cons => rfl
    simp only [str]
    generalize (⟨s.toArray⟩ : ByteArray) = S at *
    have hp : 0 < S.size := by omega
    have hhead := hhead hp
    by_cases h6 : 6 < S.size
    · have HN := Aside0.mk (show numV s = -1 from by unfold numV numP; rw [if_pos (.inr (.inl (by omega)))])
      have q1 : decide (6 < (S.size : Int)) = true := by simp; omega
      clear hhead hpos hz
      go_enter Tryz.func42, Tryz.ntmps42
      go_wp2
      go_ret
      rw [HN.out]
      exact ⟨rfl, rfl⟩
    · have q1 : decide (6 < (S.size : Int)) = false := by simp; omega
      by_cases h1 : 1 < S.size
      · have q2 : decide (1 < (S.size : Int)) = true := by simp; omega
        by_cases h48 : S[0] = 48
        · have HN := Aside0.mk (show numV s = -1 from by unfold numV numP; rw [if_pos (.inr (.inr ⟨by omega, by rw [hhead, h48]⟩))])
          have q3 : (((S[0]).toNat : Int) == 48) = true := by rw [h48]; rfl
          clear hhead hpos hz
          go_enter Tryz.func42, Tryz.ntmps42
          go_wp2
          go_ret
          rw [HN.out]
          exact ⟨rfl, rfl⟩
        have q3 : (((S[0]).toNat : Int) == 48) = false := by
          have : (S[0]).toNat ≠ 48 := fun e => h48 (by rw [← UInt8.toNat_inj]; exact e)
          simp; omega
        have hnum : numP s = digs 0 s := by
          unfold numP
          rw [if_neg]
          rintro (h | h | ⟨_, h⟩)
          · exact h0 h
          · omega
          · rw [hhead] at h; injection h with h; exact h48 h
        have hl : s.length = S.size := hz.symm
        clear hhead hpos hz h48
        go_enter Tryz.func42, Tryz.ntmps42
        go_wp2
        go_loop [3, 4] (fun n i => ∃ k m : Nat, k ≤ S.size ∧ i = .int .i64 k ∧ n = .int .i64 m ∧ m < 10 ^ k ∧ digs m (s.drop k) = digs 0 s) (fun _ i => S.size - (intOf i).toNat)
        case atStart => exact ⟨0, 0, Nat.zero_le _, rfl, rfl, by decide, by simp⟩
        case round =>
          obtain ⟨k, m, hk, rfl, rfl, hm, hd⟩ := hrel
          have hm6 : (m : Int) < 1000000 := by
            have : 10 ^ k ≤ 10 ^ 6 := Nat.pow_le_pow_right (by omega) (by omega)
            omega
          by_cases hlt : k < S.size
          · have hlt' : (k : Int) < (S.size : Int) := by omega
            obtain ⟨b, hb, hdr⟩ := HG.out k hlt
            rw [hdr, digs_cons] at hd
            have hb8 : b.toNat < 256 := b.toNat_lt
            by_cases h1 : b.toNat < 48
            · have q1 : decide (((S[k]).toNat : Int) < 48) = true := by rw [hb]; simp; omega
              rw [if_neg (by omega)] at hd
              have HN := Aside0.mk (show numV s = -1 from by unfold numV; rw [hnum, ← hd])
              clear hd hdr hb hm
              go_wp2
              go_ret
              rw [HN.out]
              exact ⟨rfl, rfl⟩
            · by_cases h2 : 57 < b.toNat
              · have q1 : decide (((S[k]).toNat : Int) < 48) = false := by rw [hb]; simp; omega
                have q2 : decide (57 < ((S[k]).toNat : Int)) = true := by rw [hb]; simp; omega
                rw [if_neg (by omega)] at hd
                have HN := Aside0.mk (show numV s = -1 from by unfold numV; rw [hnum, ← hd])
                clear hd hdr hb hm
                go_wp2
                go_ret
                rw [HN.out]
                exact ⟨rfl, rfl⟩
              · have q1 : decide (((S[k]).toNat : Int) < 48) = false := by rw [hb]; simp; omega
                have q2 : decide (57 < ((S[k]).toNat : Int)) = false := by rw [hb]; simp; omega
                rw [if_pos (by omega)] at hd
                have q3 : ((S[k]).toNat : Int) ≤ 57 := by rw [hb]; omega
                have q4 : 48 ≤ ((S[k]).toNat : Int) := by rw [hb]; omega
                have e1 : IntKind.i64.wrap ((m : Int) * 10) = m * 10 := IntWalk.i64_in _ (by omega)
                have e2 : IntKind.i64.wrap ((S[k]).toNat : Int) = ((S[k]).toNat : Int) := IntWalk.i64_in _ (by omega)
                have e3 : IntKind.i64.wrap ((m : Int) * 10 + ((S[k]).toNat : Int)) = (m : Int) * 10 + ((S[k]).toNat : Int) := IntWalk.i64_in _ (by omega)
                have e4 : IntKind.i64.wrap ((m : Int) * 10 + ((S[k]).toNat : Int) - 48) = (m : Int) * 10 + ((S[k]).toNat : Int) - 48 := IntWalk.i64_in _ (by omega)
                have HD := Aside0.mk (show digs (m * 10 + ((S[k]).toNat - 48)) (s.drop (k + 1)) = digs 0 s ∧ m * 10 + ((S[k]).toNat - 48) < 10 ^ (k + 1) from by
                  rw [hb]; refine ⟨hd, ?_⟩; rw [Nat.pow_succ]; omega)
                clear hd hdr hb hm
                go_wp2
                exact ⟨⟨k + 1, m * 10 + ((S[k]).toNat - 48), by omega, by simp, by congr 1; omega, HD.out.2, HD.out.1⟩, by simp [intOf]; omega⟩
          · obtain rfl : k = S.size := by omega
            have HN := Aside0.mk (show numV s = m from by
              unfold numV
              rw [hnum, ← hd, List.drop_eq_nil_of_le (by omega)]
              rfl)
            clear hd hm
            go_wp2
            go_ret
            rw [HN.out]
            exact ⟨rfl, rfl⟩
      · have q2 : decide (1 < (S.size : Int)) = false := by simp; omega
        have hnum : numP s = digs 0 s := by
          unfold numP
          rw [if_neg]
          rintro (h | h | ⟨h, _⟩)
          · exact h0 h
          · omega
          · omega
        have hl : s.length = S.size := hz.symm
        clear hhead hpos hz
        go_enter Tryz.func42, Tryz.ntmps42
        go_wp2
        go_loop [3, 4] (fun n i => ∃ k m : Nat, k ≤ S.size ∧ i = .int .i64 k ∧ n = .int .i64 m ∧ m < 10 ^ k ∧ digs m (s.drop k) = digs 0 s) (fun _ i => S.size - (intOf i).toNat)
        case atStart => exact ⟨0, 0, Nat.zero_le _, rfl, rfl, by decide, by simp⟩
        case round =>
          obtain ⟨k, m, hk, rfl, rfl, hm, hd⟩ := hrel
          have hm6 : (m : Int) < 1000000 := by
            have : 10 ^ k ≤ 10 ^ 6 := Nat.pow_le_pow_right (by omega) (by omega)
            omega
          by_cases hlt : k < S.size
          · have hlt' : (k : Int) < (S.size : Int) := by omega
            obtain ⟨b, hb, hdr⟩ := HG.out k hlt
            rw [hdr, digs_cons] at hd
            have hb8 : b.toNat < 256 := b.toNat_lt
            by_cases h1 : b.toNat < 48
            · have q1 : decide (((S[k]).toNat : Int) < 48) = true := by rw [hb]; simp; omega
              rw [if_neg (by omega)] at hd
              have HN := Aside0.mk (show numV s = -1 from by unfold numV; rw [hnum, ← hd])
              clear hd hdr hb hm
              go_wp2
              go_ret
              rw [HN.out]
              exact ⟨rfl, rfl⟩
            · by_cases h2 : 57 < b.toNat
              · have q1 : decide (((S[k]).toNat : Int) < 48) = false := by rw [hb]; simp; omega
                have q2 : decide (57 < ((S[k]).toNat : Int)) = true := by rw [hb]; simp; omega
                rw [if_neg (by omega)] at hd
                have HN := Aside0.mk (show numV s = -1 from by unfold numV; rw [hnum, ← hd])
                clear hd hdr hb hm
                go_wp2
                go_ret
                rw [HN.out]
                exact ⟨rfl, rfl⟩
              · have q1 : decide (((S[k]).toNat : Int) < 48) = false := by rw [hb]; simp; omega
                have q2 : decide (57 < ((S[k]).toNat : Int)) = false := by rw [hb]; simp; omega
                rw [if_pos (by omega)] at hd
                have q3 : ((S[k]).toNat : Int) ≤ 57 := by rw [hb]; omega
                have q4 : 48 ≤ ((S[k]).toNat : Int) := by rw [hb]; omega
                have e1 : IntKind.i64.wrap ((m : Int) * 10) = m * 10 := IntWalk.i64_in _ (by omega)
                have e2 : IntKind.i64.wrap ((S[k]).toNat : Int) = ((S[k]).toNat : Int) := IntWalk.i64_in _ (by omega)
                have e3 : IntKind.i64.wrap ((m : Int) * 10 + ((S[k]).toNat : Int)) = (m : Int) * 10 + ((S[k]).toNat : Int) := IntWalk.i64_in _ (by omega)
                have e4 : IntKind.i64.wrap ((m : Int) * 10 + ((S[k]).toNat : Int) - 48) = (m : Int) * 10 + ((S[k]).toNat : Int) - 48 := IntWalk.i64_in _ (by omega)
                have HD := Aside0.mk (show digs (m * 10 + ((S[k]).toNat - 48)) (s.drop (k + 1)) = digs 0 s ∧ m * 10 + ((S[k]).toNat - 48) < 10 ^ (k + 1) from by
                  rw [hb]; refine ⟨hd, ?_⟩; rw [Nat.pow_succ]; omega)
                clear hd hdr hb hm
                go_wp2
                exact ⟨⟨k + 1, m * 10 + ((S[k]).toNat - 48), by omega, by simp, by congr 1; omega, HD.out.2, HD.out.1⟩, by simp [intOf]; omega⟩
          · obtain rfl : k = S.size := by omega
            have HN := Aside0.mk (show numV s = m from by
              unfold numV
              rw [hnum, ← hd, List.drop_eq_nil_of_le (by omega)]
              rfl)
            clear hd hm
            go_wp2
            go_ret
            rw [HN.out]
            exact ⟨rfl, rfl⟩
/-- What shell.number answers: the number matters where it is fine. -/
theorem i64_of_ok {l : List UInt8} {v : Int} (h : Lib.atoiAll l = .ok v) : -9223372036854775808 ≤ v ∧ v ≤ 9223372036854775807 := Lib.atoiAll_bounds h
theorem str_toList (a : List UInt8) : (⟨a.toArray⟩ : ByteArray).toList = a := by rw [ByteArray.toList_eq]
set_option maxHeartbeats 4000000 in
set_option maxRecDepth 100000 in
theorem number_calls (s : List UInt8) (hs : s.length ≤ 281474976710656) (w : World) (hT : Tabs w) :
    Calls Tryz.prog 82 #[str s] w fun e w' => ∃ v : Int, e = .returned (.tuple #[.int .i64 v, .bool (numP s).isSome]) ∧ (∀ n, numP s = some n → v = n) ∧ Below w.heap.size w w' := by
  have hz : (⟨s.toArray⟩ : ByteArray).size = s.length := str_size s
  obtain ⟨hf1, hf2⟩ := fine_iff s
  have hda : (⟨s.toArray⟩ : ByteArray).data.toList = s := by simp
  have HITO := Aside0.mk (fun (n : Int) (h0 : -9223372036854775808 ≤ n) (h1 : n ≤ 9223372036854775807) (W : World) (hW : Below w.heap.size w W) => ((Tryz.strconv_Itoa n h0 h1 W (hT.below hW).p10).mono (R' := fun e w' => e = .returned (str (Lib.itoa n)) ∧ Below w.heap.size w w') fun e w' h => ⟨h.1, by
    obtain ⟨_, k, os, rfl⟩ := h
    exact below_trans hW (Lib.below_grow _ _ (Nat.le_refl _) _ _)⟩))
  cases ha : Lib.atoiAll s with
  | ok v =>
    obtain ⟨b0, b1⟩ := i64_of_ok ha
    have HA := Aside0.mk ((Tryz.strconv_Atoi_ok ⟨s.toArray⟩ (by omega) v (by rw [hda]; exact ha) w).mono (R' := fun e w' => e = .returned (.tuple #[.int .i64 v, .nilIface]) ∧ Below w.heap.size w w') fun e w' h => ⟨h.1, by
      rcases h.2 with rfl | ⟨t, rfl⟩
      · exact Below.refl _ _
      · exact Lib.bytesWorld_below _ _ _⟩)
    have HI := Aside0.mk (HITO.out v b0 b1)
    have hd : fineB s = (decide (0 ≤ v) && (decide (s.length ≤ 6) && decide (Lib.itoa v = s))) := by unfold fineB; rw [ha]
    rw [hf1] at hd
    have HV := Aside0.mk (fun n (hn : numP s = some n) => hf2 v n ha hn)
    have hc : ((⟨(Lib.itoa v).toArray⟩ : ByteArray).toList == (⟨s.toArray⟩ : ByteArray).toList) = decide (Lib.itoa v = s) := by
      rw [str_toList, str_toList]; by_cases h : Lib.itoa v = s <;> simp [h]
    rw [← hc] at hd
    rw [← hz] at hd
    simp only [str] at HI ⊢
    clear hf1 hf2 hda HITO hs b0 b1 hz ha hT hc
    generalize (⟨(Lib.itoa v).toArray⟩ : ByteArray) = I at *
    generalize (⟨s.toArray⟩ : ByteArray) = S at *
    generalize Lib.itoa v = i at *
    generalize numP s = N at *
    by_cases c1 : 0 ≤ v
    · by_cases c2 : S.size ≤ 6
      · have q1 : decide (0 ≤ v) = true := by simpa using c1
        have q2 : decide ((S.size : Int) ≤ 6) = true := by simp; omega
        go_enter Tryz.func82, Tryz.ntmps82
        go_wp2_with (first | (go_at_call 153; refine HA.out.mono ?_; rintro e w1 ⟨rfl, hb⟩; have HB := Aside0.mk hb; clear hb) | (go_at_call 85; refine (HI.out _ HB.out).mono ?_; rintro e w2 ⟨rfl, hb⟩; have HB2 := Aside0.mk hb; clear hb))
        go_ret2
        exact ⟨v, by rw [hd, q1, show decide (S.size ≤ 6) = true by simpa using c2]; rfl, HV.out, HB2.out⟩
      · have q1 : decide (0 ≤ v) = true := by simpa using c1
        have q2 : decide ((S.size : Int) ≤ 6) = false := by simp; omega
        go_enter Tryz.func82, Tryz.ntmps82
        go_wp2_with (go_at_call 153; refine HA.out.mono ?_; rintro e w1 ⟨rfl, hb⟩; have HB := Aside0.mk hb; clear hb)
        go_ret2
        exact ⟨v, by rw [hd, q1, show decide (S.size ≤ 6) = false by simp; omega]; rfl, HV.out, HB.out⟩
    · have q1 : decide (0 ≤ v) = false := by simpa using c1
      go_enter Tryz.func82, Tryz.ntmps82
      go_wp2_with (go_at_call 153; refine HA.out.mono ?_; rintro e w1 ⟨rfl, hb⟩; have HB := Aside0.mk hb; clear hb)
      go_ret2
      exact ⟨v, by rw [hd, q1]; rfl, HV.out, HB.out⟩
  | range =>
    obtain ⟨tp, p, hc⟩ := hT.rng
    have HA := Aside0.mk ((Tryz.strconv_Atoi_range ⟨s.toArray⟩ (by omega) (by rw [hda]; exact ha) _ w hc (.inr ⟨_, _, rfl⟩)).mono (R' := fun e w' => (∃ n t v, e = .returned (.tuple #[.int .i64 n, .iface t v])) ∧ Below w.heap.size w w') fun e w' h => by
      obtain ⟨N, h1, _, _, h4⟩ := h; exact ⟨⟨_, _, _, h1⟩, h4⟩)
    have hd : fineB s = false := by unfold fineB; rw [ha]
    rw [hf1] at hd
    simp only [str] at HA ⊢
    clear hf1 hf2 hda HITO hs hz ha hT hc
    generalize (⟨s.toArray⟩ : ByteArray) = S at *
    generalize numP s = N at *
    go_enter Tryz.func82, Tryz.ntmps82
    go_wp2_with (go_at_call 153; refine HA.out.mono ?_; rintro e w1 ⟨⟨n, t, v, rfl⟩, hb⟩; have HB := Aside0.mk hb; clear hb)
    go_ret2
    exact ⟨n, by rw [hd]; rfl, (fun n hn => by rw [hn] at hd; cases hd), HB.out⟩
  | _ =>
    obtain ⟨tp, p, hc⟩ := hT.syn
    have HA := Aside0.mk ((Tryz.strconv_Atoi_none ⟨s.toArray⟩ (by omega) (h := (congrArg Lib.atoiAll hda).trans ha) (hx := fun v h => by cases h) (hr := fun h => by cases h) _ w hc (.inr ⟨_, _, rfl⟩)).mono (R' := fun e w' => (∃ t v, e = .returned (.tuple #[.int .i64 0, .iface t v])) ∧ Below w.heap.size w w') fun e w' h => by
      obtain ⟨N, h1, _, _, h4⟩ := h; exact ⟨⟨_, _, h1⟩, h4⟩)
    have hd : fineB s = false := by unfold fineB; rw [ha]
    rw [hf1] at hd
    simp only [str] at HA ⊢
    clear hf1 hf2 hda HITO hs hz ha hT hc
    generalize (⟨s.toArray⟩ : ByteArray) = S at *
    generalize numP s = N at *
    go_enter Tryz.func82, Tryz.ntmps82
    go_wp2_with (go_at_call 153; refine HA.out.mono ?_; rintro e w1 ⟨⟨t, v, rfl⟩, hb⟩; have HB := Aside0.mk hb; clear hb)
    go_ret2
    exact ⟨0, by rw [hd]; rfl, (fun n hn => by rw [hn] at hd; cases hd), HB.out⟩
end Go.Proofs.YtefleapekgbpcaaGreatDoor.Shl
