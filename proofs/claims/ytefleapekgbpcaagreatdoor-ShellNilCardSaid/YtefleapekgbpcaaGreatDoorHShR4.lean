/- The law's read where a word is one of the table's: the walk (a message). -/
import Derived.Test.YtefleapekgbpcaaGreatDoorHShR2
namespace Go.Proofs.YtefleapekgbpcaaGreatDoor.Shl
open Go.RowKit
set_option linter.unusedVariables false
set_option linter.unusedSimpArgs false
set_option maxHeartbeats 40000000 in
set_option maxRecDepth 100000 in
theorem read_byte (s : List UInt8) (hs : s.length ≤ 281474976710656) (w : World) (K : Nat) (hk : kindOf (cutB s).1 = some K) (h2 : two K = false) (hK00 : K = 0) :
    Calls Tryz.prog 39 #[str s] w (ReadPost s w) := by
  have hr := (cut_len s).2
  have ha1 := (cut_len (cutB s).2.1).1
  have hr1 := (cut_len (cutB s).2.1).2
  have ha2 := (cut_len (cutB (cutB s).2.1).2.1).1
  have HC := Aside0.mk (fun W => lawCut_calls s hs W)
  have HC1 := Aside0.mk (fun W => lawCut_calls (cutB s).2.1 (by omega) W)
  have HC2 := Aside0.mk (fun W => lawCut_calls (cutB (cutB s).2.1).2.1 (by omega) W)
  have HN1 := Aside0.mk (fun W => lawNumber_calls (cutB (cutB s).2.1).1 (by omega) W)
  have HN2 := Aside0.mk (fun W => lawNumber_calls (cutB (cutB (cutB s).2.1).2.1).1 (by omega) W)
  have HB0 := Aside0.mk (Below.alloc (Below.refl _ w) (Nat.le_refl _) (.cells #[.int .u8 0, .int .i64 0, .int .i64 0, .slice none 0 0] 62 (0, 0)))
  have HR0 := Aside0.mk (show (w.alloc (.cells #[.int .u8 0, .int .i64 0, .int .i64 0, .slice none 0 0] 62 (0, 0))).heap[w.heap.size]? = _ from (below_box (Below.refl _ _)).2.1)
  simp only [str] at HC HC1 HC2 HN1 HN2 ⊢
  obtain ⟨B, hB⟩ : ∃ B : Nat → ByteArray, ∀ k, B k = ⟨(word k).toArray⟩ := ⟨_, fun _ => rfl⟩
  have HWD := Aside0.mk (fun (k : Nat) (hk : k < 9) (W : World) => (show Calls Tryz.prog 83 #[.int .u8 k] W (fun e w' => e = .returned (.tuple #[.string (B k), .int .i64 (nums k)]) ∧ Below W.heap.size W w') from by rw [hB]; exact word_calls k hk W))
  have HQ := Aside0.mk (fun (k : Nat) (hk9 : k < 9) => (show ((B k).toList == (⟨(cutB s).1.toArray⟩ : ByteArray).toList) = decide (K = k) from by
    rw [hB, str_toList, str_toList]
    by_cases h : word k = (cutB s).1
    · rw [← h, (kind_word k hk9).1] at hk; injection hk with hk; subst hk; simp [h]
    · have : K ≠ k := fun e => h (kind_some (e ▸ hk)).2
      simp [h, this]))
  have hK := (kind_some hk).1
  have hP : parseP s = match parseK K (cutB s).2.1 with | none => none | some x => some (K, x) := by unfold parseP; rw [hk]; rfl
  clear hB hk hr ha1 hr1 ha2
  have mixed : Tryz.prog.follows .mixedOrders = true := by kernel_rfl
  subst hK00
  have hnu : nums 0 = 1 := by simp [nums, two]
  have HWK := Aside0.mk (HWD.out 0 hK)
  rw [hnu] at HWK
  have hsome : (parseP s).isSome = ((cutB (cutB s).2.1).2.2 && decide (0 ≤ numV (cutB (cutB s).2.1).1)) ∧ ∀ k i j m, parseP s = some (k, i, j, m) → (0 : Int) = k ∧ numV (cutB (cutB s).2.1).1 = i ∧ (0 : Int) = j ∧ m = (cutB (cutB s).2.1).2.1 := by
    rw [hP]
    rcases numV_cases (cutB (cutB s).2.1).1 with ⟨hn1, hv1, g1⟩ | ⟨n1, hn1, hv1, g1⟩ <;> cases ho1 : (cutB (cutB s).2.1).2.2 <;> simp [parseK, two, hn1, ho1, hv1]
    intro k i j m h1 h2 h3 h4; subst h1 h2 h3; exact ⟨rfl, rfl, rfl, h4.symm⟩
  have HP := Aside0.mk (fun (W : World) (h : Below w.heap.size w W) (b c : Nat) (cs : Array Value) (t : TypeId) (fr : Nat × Nat) (h2' : W.heap[b]? = some (.cells cs t fr)) (h6 : ∀ k (hk : k < (cutB (cutB s).2.1).2.1.length), cs[k]? = some (.int .u8 ((cutB (cutB s).2.1).2.1[k].toNat : Int))) => (show ReadPost s w (.returned (.tuple #[.agg #[.int .u8 0, .int .i64 (numV (cutB (cutB s).2.1).1), .int .i64 0, .slice (some ⟨b, 0, none⟩) (cutB (cutB s).2.1).2.1.length c], .bool ((cutB (cutB s).2.1).2.2 && decide (0 ≤ numV (cutB (cutB s).2.1).1))])) W from ⟨h, 0, numV (cutB (cutB s).2.1).1, 0, some ⟨b, 0, none⟩, (cutB (cutB s).2.1).2.1.length, c, by rw [hsome.1], fun k i j m e => by
    obtain ⟨e1, e2, e3, rfl⟩ := hsome.2 k i j m e
    exact ⟨e1, e2, e3, .inr ⟨b, c, cs, t, fr, rfl, h2', h6⟩⟩⟩))
  clear h2 hP hs hnu hsome HC2 HN2
  generalize numV (cutB (cutB s).2.1).1 = v1 at *
  generalize (cutB (cutB s).2.1).2.2 = ok1 at *
  generalize (cutB (cutB s).2.1).2.1 = m at *
  obtain ⟨R1, hR1⟩ : ∃ R1 : ByteArray, R1 = ⟨m.toArray⟩ := ⟨_, rfl⟩
  rw [← hR1] at HC1
  have HCONV := Aside0.mk (fun W => Lib.run_convert_string_bytes (P := Tryz.prog) W 9 24 5 R1 Tryz.underlying9 Tryz.underlying24 Tryz.underlying5)
  generalize (⟨(cutB (cutB s).2.1).1.toArray⟩ : ByteArray) = A1 at *
  generalize (⟨(cutB s).1.toArray⟩ : ByteArray) = A at *
  generalize (⟨(cutB s).2.1.toArray⟩ : ByteArray) = R at *
  generalize (cutB s).2.2 = ok at *
  generalize (⟨s.toArray⟩ : ByteArray) = S at *
  obtain ⟨K, hK0⟩ : ∃ K : Nat, K = 0 := ⟨0, rfl⟩
  have hz0 : ((K : Int) == 0) = true := by simp [hK0]
  have hK : K < 9 := by omega
  rw [← hK0] at HQ
  have HWK2 := Aside0.mk (show ∀ W : World, Calls Tryz.prog 83 #[.int .u8 (K : Int)] W (fun e w' => e = .returned (.tuple #[.string (B K), .int .i64 1]) ∧ Below W.heap.size W w') from by rw [hK0]; exact HWK.out)
  clear HWK
  have HWK := HWK2
  clear HWK2
  have HK0 := Aside0.mk hK0
  have HR1E := Aside0.mk hR1
  clear hK0 hR1
  obtain ⟨b1, g1⟩ : ∃ b, decide (0 ≤ v1) = b := ⟨_, rfl⟩
  rw [g1] at HP
  go_enter Tryz.func39, Tryz.ntmps39
  go_wp2_with (go_at_call 41; refine (HC.out _).mono ?_; rintro e w1 ⟨rfl, hb⟩; have HB1 := Aside0.mk (HB0.out.trans (hb.mono HB0.out.size)); have HR1 := Aside0.mk (k_below HR0.out hb); clear hb)
  go_loopw [7] (fun i wr => ∃ k : Nat, k ≤ K ∧ i = .int .u8 k ∧ Aside0 (Below w.heap.size w wr) ∧ Aside0 (wr.heap[w.heap.size]? = some (.cells #[.int .u8 0, .int .i64 0, .int .i64 0, .slice none 0 0] 62 (0, 0)))) (fun i _ => 9 - (intOf i).toNat)
  case atStart => exact ⟨0, Nat.zero_le _, rfl, HB1, HR1⟩
  case round =>
    obtain ⟨k, hkK, rfl, HB, HR⟩ := hrel
    have hk9 : k < 9 := by omega
    have hk' : (k : Int) < 9 := by omega
    have hq := HQ.out k hk9
    rcases (show k < K ∨ k = K from by omega) with hk | rfl
    · simp only [decide_eq_false (show ¬ K = k by omega)] at hq
      clear HQ
      go_wp2_with (go_at_call 83; refine (HWD.out k hk9 _).mono ?_; rintro e w2 ⟨rfl, hb⟩; have HB2 := Aside0.mk (below_trans HB.out hb); have HR2 := Aside0.mk (k_below HR.out hb); clear hb)
      exact ⟨⟨k + 1, by omega, by simp, HB2, HR2⟩, by simp [intOf]; omega⟩
    · simp only [decide_true] at hq
      clear HQ
      cases ok1 <;> cases b1 <;> (
        go_wp2_with (first
          | (go_at_call 83; refine (HWK.out _).mono ?_; rintro e w2 ⟨rfl, hb⟩; have HB2 := Aside0.mk (below_trans HB.out hb); have HR2 := Aside0.mk (k_below HR.out hb); clear hb)
          | (go_at_call 41; with_reducible refine (HC1.out _).mono ?_; rintro e w3 ⟨rfl, hb⟩; have HB3 := Aside0.mk (below_trans HB2.out hb); have hR3 := k_below HR2.out hb; have HR3 := Aside0.mk hR3; have hne : w.heap.size ≠ w3.heap.size := Nat.ne_of_lt (k_lt hR3); have hne2 : w3.heap.size ≠ w.heap.size := hne.symm; have hx := fun o => k_cells (k_alloc hR3 o); clear hb hR3; have hc := HCONV.out (w3.alloc (.cells #[.int .u8 (k : Int), .int .i64 v1, .int .i64 0, .slice none 0 0] 62 (0, 0))); have hsz3 : (w3.alloc (.cells #[.int .u8 (k : Int), .int .i64 v1, .int .i64 0, .slice none 0 0] 62 (0, 0))).heap.size = w3.heap.size + 1 := alloc_size w3 _; have HNW := Aside0.mk (Lib.bytesWorld_at_new (w3.alloc (.cells #[.int .u8 (k : Int), .int .i64 v1, .int .i64 0, .slice none 0 0] 62 (0, 0))) 5 R1); have HCS := Aside0.mk (bytes_cells (w3.alloc (.cells #[.int .u8 (k : Int), .int .i64 v1, .int .i64 0, .slice none 0 0] 62 (0, 0))) 5 m R1 HR1E.out); have hbw := Lib.bytesWorld_below (w3.alloc (.cells #[.int .u8 (k : Int), .int .i64 v1, .int .i64 0, .slice none 0 0] 62 (0, 0))) 5 R1; rw [hsz3] at hc HNW; have HBB := Aside0.mk (below_trans (HB3.out.alloc HB3.out.size (.cells #[.int .u8 (k : Int), .int .i64 v1, .int .i64 0, .slice none 0 0] 62 (0, 0))) hbw); have HRB := Aside0.mk (k_below (k_alloc HR3.out (.cells #[.int .u8 (k : Int), .int .i64 v1, .int .i64 0, .slice none 0 0] 62 (0, 0))) hbw); have hXB := k_below (below_box (Below.refl (w3.alloc (.cells #[.int .u8 (k : Int), .int .i64 v1, .int .i64 0, .slice none 0 0] 62 (0, 0))).heap.size (w3.alloc (.cells #[.int .u8 (k : Int), .int .i64 v1, .int .i64 0, .slice none 0 0] 62 (0, 0))))).2.1 hbw; generalize Lib.bytesWorld (w3.alloc (.cells #[.int .u8 (k : Int), .int .i64 v1, .int .i64 0, .slice none 0 0] 62 (0, 0))) 5 R1 = WB at *; generalize Lib.bytesCells (w3.alloc (.cells #[.int .u8 (k : Int), .int .i64 v1, .int .i64 0, .slice none 0 0] 62 (0, 0))) 5 R1 = cb at *; generalize grownCap (w3.alloc (.cells #[.int .u8 (k : Int), .int .i64 v1, .int .i64 0, .slice none 0 0] 62 (0, 0))) R1.size 0 5 = cp at *; obtain ⟨y0, y1, y2, y3, y4, y5, y6, y7⟩ := k_cells hXB; obtain ⟨x0, x1, x2, x3, x4, x5, x6, x7⟩ := k_cells HRB.out; clear hbw hXB hx hsz3)
          | (go_at_call 42; with_reducible refine (HN1.out _).mono ?_; rintro e w3 ⟨rfl, rfl⟩))
        go_region_o
        go_wp2
        obtain ⟨s1, s2, s3, s4⟩ := HCS.out
        have hk0 := HK0.out
        refine bodyPost_ret (res_read (k_put4 (k_far HRB.out (p := ⟨w3.heap.size, 3, none⟩) hne _) _ _ _ _) rfl) rfl ?_
        rw [s1]
        have hl3 := HB3.out.size
        have hfin := HP.out _ (Below.drew (((((HBB.out.setCell (p := ⟨w3.heap.size, 3, none⟩) HB3.out.size (.slice (some ⟨w3.heap.size + 1, 0, none⟩) m.length cp)).setCell (p := ⟨w.heap.size, 0, none⟩) (Nat.le_refl _) (.int .u8 (k : Int))).setCell (p := ⟨w.heap.size, 1, none⟩) (Nat.le_refl _) (.int .i64 v1)).setCell (p := ⟨w.heap.size, 2, none⟩) (Nat.le_refl _) (.int .i64 0)).setCell (p := ⟨w.heap.size, 3, none⟩) (Nat.le_refl _) (.slice (some ⟨w3.heap.size + 1, 0, none⟩) m.length cp))) (w3.heap.size + 1) cp cb _ _ (k_far (k_far (k_far (k_far (k_far HNW.out (p := ⟨w3.heap.size, 3, none⟩) (Nat.succ_ne_self _) _) (p := ⟨w.heap.size, 0, none⟩) (Nat.ne_of_gt (Nat.lt_succ_of_le HB3.out.size)) _) (p := ⟨w.heap.size, 1, none⟩) (Nat.ne_of_gt (Nat.lt_succ_of_le HB3.out.size)) _) (p := ⟨w.heap.size, 2, none⟩) (Nat.ne_of_gt (Nat.lt_succ_of_le HB3.out.size)) _) (p := ⟨w.heap.size, 3, none⟩) (Nat.ne_of_gt (Nat.lt_succ_of_le HB3.out.size)) _) s4
        rw [hk0]
        rw [hk0] at hfin
        exact hfin)
end Go.Proofs.YtefleapekgbpcaaGreatDoor.Shl
