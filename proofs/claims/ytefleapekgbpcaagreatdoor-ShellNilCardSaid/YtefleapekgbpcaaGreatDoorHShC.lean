/- shell.Parse: the walk. -/
import Derived.Test.YtefleapekgbpcaaGreatDoorHShC0
namespace Go.Proofs.YtefleapekgbpcaaGreatDoor.Shl
open Go.RowKit
set_option linter.unusedVariables false
set_option linter.unusedSimpArgs false
theorem cut_len (l : List UInt8) : (cutB l).1.length ≤ l.length ∧ (cutB l).2.1.length ≤ l.length := by
  rcases cut_cases l with ⟨h, _⟩ | ⟨a, r, rfl, _, h⟩
  · rw [h]; simp
  · rw [h]; simp <;> omega
theorem bytes_cells (w : World) (e : TypeId) (m : List UInt8) (R : ByteArray) (hR : R = ⟨m.toArray⟩) : R.size = m.length ∧ m.length ≤ grownCap w R.size 0 e ∧ grownCap w R.size 0 e ≤ (Lib.bytesCells w e R).size ∧ ∀ k (hk : k < m.length), (Lib.bytesCells w e R)[k]? = some (.int .u8 (m[k].toNat : Int)) := by
  subst hR
  have h1 := str_size m
  have h2 : m.length ≤ grownCap w (⟨m.toArray⟩ : ByteArray).size 0 e := by rw [← h1]; exact grownCap_ge w _ 0 e
  refine ⟨h1, h2, ?_, fun k hk => ?_⟩
  · unfold Lib.bytesCells
    rw [Array.size_append, Array.size_map, Array.size_replicate]
    show _ ≤ (⟨m.toArray⟩ : ByteArray).size + _
    omega
  · unfold Lib.bytesCells
    rw [Array.getElem?_append_left (by simpa using hk)]
    simp [hk]
/-- The boxes of a call of Parse: its result, its step. -/
structure Bx (w wr : World) (g : Nat) (a b c d : Value) : Prop where
  bel : Below w.heap.size w wr
  res : wr.heap[w.heap.size]? = some (.cells #[.int .u8 0, .int .i64 0, .int .i64 0, .slice none 0 0] 62 (0, 0))
  box : wr.heap[g]? = some (.cells #[a, b, c, d] 62 (0, 0))
  hg : w.heap.size < g
theorem Bx.below {w wr w2 : World} {g : Nat} {a b c d : Value} (h : Bx w wr g a b c d) (hb : Below wr.heap.size wr w2) : Bx w w2 g a b c d :=
  ⟨below_trans h.bel hb, k_below h.res hb, k_below h.box hb, h.hg⟩
theorem Bx.cells {w wr : World} {g : Nat} {a b c d : Value} (h : Bx w wr g a b c d) : wr.cell? ⟨g, 0, none⟩ = some a ∧ wr.cell? ⟨g, 1, none⟩ = some b ∧ wr.cell? ⟨g, 2, none⟩ = some c ∧ wr.cell? ⟨g, 3, none⟩ = some d ∧ wr.frozen? ⟨g, 0, none⟩ = false ∧ wr.frozen? ⟨g, 1, none⟩ = false ∧ wr.frozen? ⟨g, 2, none⟩ = false ∧ wr.frozen? ⟨g, 3, none⟩ = false := k_cells h.box
theorem Bx.rcells {w wr : World} {g : Nat} {a b c d : Value} (h : Bx w wr g a b c d) : wr.cell? ⟨w.heap.size, 0, none⟩ = some (.int .u8 0) ∧ wr.cell? ⟨w.heap.size, 1, none⟩ = some (.int .i64 0) ∧ wr.cell? ⟨w.heap.size, 2, none⟩ = some (.int .i64 0) ∧ wr.cell? ⟨w.heap.size, 3, none⟩ = some (.slice none 0 0) ∧ wr.frozen? ⟨w.heap.size, 0, none⟩ = false ∧ wr.frozen? ⟨w.heap.size, 1, none⟩ = false ∧ wr.frozen? ⟨w.heap.size, 2, none⟩ = false ∧ wr.frozen? ⟨w.heap.size, 3, none⟩ = false := k_cells h.res
theorem Bx.put {w wr : World} {g : Nat} {a b c d a' b' c' d' : Value} (h : Bx w wr g a b c d) (i : Nat) (u : Value) (e : (#[a, b, c, d] : Array Value).setIfInBounds i u = #[a', b', c', d']) : Bx w (wr.setCell ⟨g, i, none⟩ u) g a' b' c' d' :=
  ⟨h.bel.setCell (Nat.le_of_lt h.hg) _, k_far h.res (Nat.ne_of_lt h.hg) _, k_put h.box i u e, h.hg⟩
theorem Bx.ret {w wr : World} {g : Nat} {a b c d : Value} (h : Bx w wr g a b c d) (a' b' c' d' : Value) : ((((wr.setCell ⟨w.heap.size, 0, none⟩ a').setCell ⟨w.heap.size, 1, none⟩ b').setCell ⟨w.heap.size, 2, none⟩ c').setCell ⟨w.heap.size, 3, none⟩ d').heap[w.heap.size]? = some (.cells #[a', b', c', d'] 62 (0, 0)) := k_put4 h.res _ _ _ _
theorem Bx.retb {w wr : World} {g : Nat} {a b c d : Value} (h : Bx w wr g a b c d) (a' b' c' d' : Value) : Below w.heap.size w ((((wr.setCell ⟨w.heap.size, 0, none⟩ a').setCell ⟨w.heap.size, 1, none⟩ b').setCell ⟨w.heap.size, 2, none⟩ c').setCell ⟨w.heap.size, 3, none⟩ d') :=
  (((h.bel.setCell (Nat.le_refl _) _).setCell (Nat.le_refl _) _).setCell (Nat.le_refl _) _).setCell (Nat.le_refl _) _
theorem Bx.new {w w1 : World} (hb : Below w.heap.size w w1) (hr : w1.heap[w.heap.size]? = some (.cells #[.int .u8 0, .int .i64 0, .int .i64 0, .slice none 0 0] 62 (0, 0))) (a b c d : Value) :
    Bx w (w1.alloc (.cells #[a, b, c, d] 62 (0, 0))) w1.heap.size a b c d := by
  have hlt : w.heap.size < w1.heap.size := k_lt hr
  exact ⟨hb.alloc (Nat.le_of_lt hlt) _, k_alloc hr _, (below_box (Below.refl _ _)).2.1, hlt⟩
set_option maxHeartbeats 4000000 in
set_option maxRecDepth 100000 in
theorem Parse_some (s : List UInt8) (hs : s.length ≤ 281474976710656) (w : World) (hT : Tabs w) (h200 : ¬ 200 < s.length) (K : Nat) (hk : kindOf (cutB s).1 = some K) :
    Calls Tryz.prog 38 #[str s] w (ParsePost s w) := by
  have hz : (⟨s.toArray⟩ : ByteArray).size = s.length := str_size s
  have hr := (cut_len s).2
  have ha1 := (cut_len (cutB s).2.1).1
  have hr1 := (cut_len (cutB s).2.1).2
  have ha2 := (cut_len (cutB (cutB s).2.1).2.1).1
  have HC := Aside0.mk (fun W => Cut_calls s hs W)
  have HC1 := Aside0.mk (fun W => Cut_calls (cutB s).2.1 (by omega) W)
  have HC2 := Aside0.mk (fun W => Cut_calls (cutB (cutB s).2.1).2.1 (by omega) W)
  have HN1 := Aside0.mk (fun (W : World) (h : Below w.heap.size w W) => number_calls (cutB (cutB s).2.1).1 (by omega) W (hT.below h))
  have HN2 := Aside0.mk (fun (W : World) (h : Below w.heap.size w W) => number_calls (cutB (cutB (cutB s).2.1).2.1).1 (by omega) W (hT.below h))
  have HB0 := Aside0.mk (Below.alloc (Below.refl _ w) (Nat.le_refl _) (.cells #[.int .u8 0, .int .i64 0, .int .i64 0, .slice none 0 0] 62 (0, 0)))
  have HR0 := Aside0.mk (show (w.alloc (.cells #[.int .u8 0, .int .i64 0, .int .i64 0, .slice none 0 0] 62 (0, 0))).heap[w.heap.size]? = _ from (below_box (Below.refl _ _)).2.1)
  simp only [str] at HC HC1 HC2 HN1 HN2 ⊢
  have q1 : decide (200 < (((⟨s.toArray⟩ : ByteArray).size : Nat) : Int)) = false := by simp; omega
  obtain ⟨B, hB⟩ : ∃ B : Nat → ByteArray, ∀ k, B k = ⟨(word k).toArray⟩ := ⟨_, fun _ => rfl⟩
  have HW := Aside0.mk (fun (W : World) (h : Below w.heap.size w W) => (show W.cell? ⟨0, 0, none⟩ = some (.string (B 0)) ∧ W.cell? ⟨0, 1, none⟩ = some (.string (B 1)) ∧ W.cell? ⟨0, 2, none⟩ = some (.string (B 2)) ∧ W.cell? ⟨0, 3, none⟩ = some (.string (B 3)) ∧ W.cell? ⟨0, 4, none⟩ = some (.string (B 4)) ∧ W.cell? ⟨0, 5, none⟩ = some (.string (B 5)) ∧ W.cell? ⟨0, 6, none⟩ = some (.string (B 6)) ∧ W.cell? ⟨0, 7, none⟩ = some (.string (B 7)) ∧ W.cell? ⟨0, 8, none⟩ = some (.string (B 8)) from by
    simp only [hB]; exact (hT.below h).words))
  have HQ := Aside0.mk (fun (k : Nat) (hk9 : k < 9) => (show ((B k).toList == (⟨(cutB s).1.toArray⟩ : ByteArray).toList) = decide (K = k) from by
    rw [hB, str_toList, str_toList]
    by_cases h : word k = (cutB s).1
    · rw [← h, (kind_word k hk9).1] at hk; injection hk with hk; subst hk; simp [h]
    · have : K ≠ k := fun e => h (kind_some (e ▸ hk)).2
      simp [h, this]))
  have hK := (kind_some hk).1
  have HU := Aside0.mk (fun (W : World) (h : Below w.heap.size w W) => (hT.below h).nums K hK)
  have eK : IntKind.u8.wrap (K : Int) = K := by simp [IntKind.wrap, IntKind.signed, IntKind.bits]; omega
  have hP : parseP s = match parseK K (cutB s).2.1 with | none => none | some x => some (K, x) := by unfold parseP; rw [hk]; rfl
  clear hB hk hz hs hr ha1 hr1 ha2 hT
  -- BEGIN CASES
  cases hn1 : numP (cutB (cutB s).2.1).1 with
  | none =>
    have HP := Aside0.mk (fun (W : World) (h : Below w.heap.size w W) => (show ParsePost s w (.returned (.tuple #[zstep, .int .i64 4])) W from ⟨h, by rw [if_neg h200, hP]; simp [parseK, hn1]⟩))
    rw [hn1] at HN1
    simp only [Option.isSome] at HN1
    clear HC2 HN2
    clear hn1 h200 hP
    generalize (⟨(cutB (cutB s).2.1).1.toArray⟩ : ByteArray) = A1 at *
    generalize (⟨(cutB (cutB s).2.1).2.1.toArray⟩ : ByteArray) = R1 at *
    generalize (⟨(cutB s).1.toArray⟩ : ByteArray) = A at *
    generalize (⟨(cutB s).2.1.toArray⟩ : ByteArray) = R at *
    generalize (cutB s).2.2 = ok at *
    generalize (⟨s.toArray⟩ : ByteArray) = S at *
    generalize (cutB (cutB s).2.1).2.2 = ok1 at *
    obtain ⟨nv, hnv, hnv1⟩ : ∃ nv : Int, (if two K then (2 : Int) else 1) = nv ∧ 0 < nv := ⟨_, rfl, by split <;> decide⟩
    rw [hnv] at HU
    clear hnv
    go_enter Tryz.func38, Tryz.ntmps38
    go_wp2_with (go_at_call 81; refine (HC.out _).mono ?_; rintro e w1 ⟨rfl, hb⟩; have HB1 := Aside0.mk (HB0.out.trans (hb.mono HB0.out.size)); have HR1 := Aside0.mk (k_below HR0.out hb); obtain ⟨z0, z1, z2, z3, z4, z5, z6, z7, z8⟩ := HW.out w1 HB1.out; clear hb)
    go_loop [5, 27] (fun r i => ∃ k : Nat, k ≤ K ∧ i = .int .i64 k ∧ r = .string R) (fun _ i => 9 - (intOf i).toNat)
    case atStart => exact ⟨0, Nat.zero_le _, rfl, rfl⟩
    case round =>
      obtain ⟨k, hkK, rfl, rfl⟩ := hrel
      have hk9 : k < 9 := by omega
      have hk' : (k : Int) < 9 := by omega
      have hq := HQ.out k hk9
      have hidx := fun W => idx_words B k hk9 W
      rcases (show k < K ∨ k = K from by omega) with hk | rfl
      · simp only [decide_eq_false (show ¬ K = k by omega)] at hq
        clear HQ
        go_wp2
        exact ⟨⟨k + 1, by omega, by simp, rfl⟩, by simp [intOf]; omega⟩
      · simp only [decide_true] at hq
        clear HQ
        have HX0 := Aside0.mk (Bx.new HB1.out HR1.out (.int .u8 (k : Int)) (.int .i64 0) (.int .i64 0) (.slice none 0 0))
        have hu2 := HU.out _ HX0.out.bel
        go_wp2
        go_loopw [5, 40] (fun r i wr => (i = .int .i64 0 ∧ r = .string R ∧ Aside0 (Bx w wr w1.heap.size (.int .u8 (k : Int)) (.int .i64 0) (.int .i64 0) (.slice none 0 0)))) (fun _ i _ => 2 - (intOf i).toNat)
        case atStart => exact ⟨rfl, rfl, HX0⟩
        case round =>
          rcases hrel with ⟨rfl, rfl, HX⟩
          · go_wp2_with (first
              | (go_at_call 81; refine (HC1.out _).mono ?_; rintro e w2 ⟨rfl, hb⟩; have HX2 := Aside0.mk (HX.out.below hb); clear hb)
              | (go_at_call 82; refine (HN1.out _ HX2.out.bel).mono ?_; rintro e w3 ⟨v, rfl, hv, hb⟩; have HX3 := Aside0.mk (HX2.out.below hb); have hu3 := HU.out _ HX3.out.bel; obtain ⟨y0, y1, y2, y3, y4, y5, y6, y7⟩ := HX3.out.cells; obtain ⟨x0, x1, x2, x3, x4, x5, x6, x7⟩ := HX3.out.rcells; clear hb hv))
            refine bodyPost_ret (res_step (HX3.out.ret _ _ _ _) rfl) rfl ?_
            exact HP.out _ (HX3.out.retb _ _ _ _)
  | some n1 =>
    rw [hn1] at HN1
    simp only [Option.isSome] at HN1
    cases h2 : two K with
    | true =>
      have hK0 : K ≠ 0 := by rintro rfl; simp [two] at h2
      have hz0 : ((K : Int) == 0) = false := by simpa using hK0
      simp only [h2, if_true] at HU
      cases ho1 : (cutB (cutB s).2.1).2.2 with
      | false =>
        have HP := Aside0.mk (fun (W : World) (h : Below w.heap.size w W) => (show ParsePost s w (.returned (.tuple #[zstep, .int .i64 4])) W from ⟨h, by rw [if_neg h200, hP]; simp [parseK, hn1, h2, ho1]⟩))
        rw [ho1] at HC1
        clear HC2 HN2 ho1 h2 hK0
        clear hn1 h200 hP
        generalize (⟨(cutB (cutB s).2.1).1.toArray⟩ : ByteArray) = A1 at *
        generalize (⟨(cutB (cutB s).2.1).2.1.toArray⟩ : ByteArray) = R1 at *
        generalize (⟨(cutB s).1.toArray⟩ : ByteArray) = A at *
        generalize (⟨(cutB s).2.1.toArray⟩ : ByteArray) = R at *
        generalize (cutB s).2.2 = ok at *
        generalize (⟨s.toArray⟩ : ByteArray) = S at *
        go_enter Tryz.func38, Tryz.ntmps38
        go_wp2_with (go_at_call 81; refine (HC.out _).mono ?_; rintro e w1 ⟨rfl, hb⟩; have HB1 := Aside0.mk (HB0.out.trans (hb.mono HB0.out.size)); have HR1 := Aside0.mk (k_below HR0.out hb); obtain ⟨z0, z1, z2, z3, z4, z5, z6, z7, z8⟩ := HW.out w1 HB1.out; clear hb)
        go_loop [5, 27] (fun r i => ∃ k : Nat, k ≤ K ∧ i = .int .i64 k ∧ r = .string R) (fun _ i => 9 - (intOf i).toNat)
        case atStart => exact ⟨0, Nat.zero_le _, rfl, rfl⟩
        case round =>
          obtain ⟨k, hkK, rfl, rfl⟩ := hrel
          have hk9 : k < 9 := by omega
          have hk' : (k : Int) < 9 := by omega
          have hq := HQ.out k hk9
          have hidx := fun W => idx_words B k hk9 W
          rcases (show k < K ∨ k = K from by omega) with hk | rfl
          · simp only [decide_eq_false (show ¬ K = k by omega)] at hq
            clear HQ
            go_wp2
            exact ⟨⟨k + 1, by omega, by simp, rfl⟩, by simp [intOf]; omega⟩
          · simp only [decide_true] at hq
            clear HQ
            have HX0 := Aside0.mk (Bx.new HB1.out HR1.out (.int .u8 (k : Int)) (.int .i64 0) (.int .i64 0) (.slice none 0 0))
            have hu2 := HU.out _ HX0.out.bel
            go_wp2
            go_loopw [5, 40] (fun r i wr => (i = .int .i64 0 ∧ r = .string R ∧ Aside0 (Bx w wr w1.heap.size (.int .u8 (k : Int)) (.int .i64 0) (.int .i64 0) (.slice none 0 0)))) (fun _ i _ => 2 - (intOf i).toNat)
            case atStart => exact ⟨rfl, rfl, HX0⟩
            case round =>
              rcases hrel with ⟨rfl, rfl, HX⟩
              · go_wp2_with (first
                  | (go_at_call 81; refine (HC1.out _).mono ?_; rintro e w2 ⟨rfl, hb⟩; have HX2 := Aside0.mk (HX.out.below hb); clear hb)
                  | (go_at_call 82; refine (HN1.out _ HX2.out.bel).mono ?_; rintro e w3 ⟨v, rfl, hv, hb⟩; obtain rfl : v = n1 := hv _ rfl; have HX3 := Aside0.mk (HX2.out.below hb); have hu3 := HU.out _ HX3.out.bel; obtain ⟨y0, y1, y2, y3, y4, y5, y6, y7⟩ := HX3.out.cells; obtain ⟨x0, x1, x2, x3, x4, x5, x6, x7⟩ := HX3.out.rcells; clear hb hv))
                refine bodyPost_ret (res_step (HX3.out.ret _ _ _ _) rfl) rfl ?_
                exact HP.out _ (HX3.out.retb _ _ _ _)
      | true =>
        rw [ho1] at HC1
        cases hn2 : numP (cutB (cutB (cutB s).2.1).2.1).1 with
        | none =>
          have HP := Aside0.mk (fun (W : World) (h : Below w.heap.size w W) => (show ParsePost s w (.returned (.tuple #[zstep, .int .i64 4])) W from ⟨h, by rw [if_neg h200, hP]; simp [parseK, hn1, h2, ho1, hn2]⟩))
          rw [hn2] at HN2
          simp only [Option.isSome] at HN2
          clear ho1 h2 hK0 hn2
          clear hn1 h200 hP
          generalize (⟨(cutB (cutB (cutB s).2.1).2.1).1.toArray⟩ : ByteArray) = A2 at *
          generalize (⟨(cutB (cutB (cutB s).2.1).2.1).2.1.toArray⟩ : ByteArray) = R2 at *
          generalize (⟨(cutB (cutB s).2.1).1.toArray⟩ : ByteArray) = A1 at *
          generalize (⟨(cutB (cutB s).2.1).2.1.toArray⟩ : ByteArray) = R1 at *
          generalize (⟨(cutB s).1.toArray⟩ : ByteArray) = A at *
          generalize (⟨(cutB s).2.1.toArray⟩ : ByteArray) = R at *
          generalize (cutB s).2.2 = ok at *
          generalize (⟨s.toArray⟩ : ByteArray) = S at *
          generalize (cutB (cutB (cutB s).2.1).2.1).2.2 = ok2 at *
          go_enter Tryz.func38, Tryz.ntmps38
          go_wp2_with (go_at_call 81; refine (HC.out _).mono ?_; rintro e w1 ⟨rfl, hb⟩; have HB1 := Aside0.mk (HB0.out.trans (hb.mono HB0.out.size)); have HR1 := Aside0.mk (k_below HR0.out hb); obtain ⟨z0, z1, z2, z3, z4, z5, z6, z7, z8⟩ := HW.out w1 HB1.out; clear hb)
          go_loop [5, 27] (fun r i => ∃ k : Nat, k ≤ K ∧ i = .int .i64 k ∧ r = .string R) (fun _ i => 9 - (intOf i).toNat)
          case atStart => exact ⟨0, Nat.zero_le _, rfl, rfl⟩
          case round =>
            obtain ⟨k, hkK, rfl, rfl⟩ := hrel
            have hk9 : k < 9 := by omega
            have hk' : (k : Int) < 9 := by omega
            have hq := HQ.out k hk9
            have hidx := fun W => idx_words B k hk9 W
            rcases (show k < K ∨ k = K from by omega) with hk | rfl
            · simp only [decide_eq_false (show ¬ K = k by omega)] at hq
              clear HQ
              go_wp2
              exact ⟨⟨k + 1, by omega, by simp, rfl⟩, by simp [intOf]; omega⟩
            · simp only [decide_true] at hq
              clear HQ
              have HX0 := Aside0.mk (Bx.new HB1.out HR1.out (.int .u8 (k : Int)) (.int .i64 0) (.int .i64 0) (.slice none 0 0))
              have hu2 := HU.out _ HX0.out.bel
              go_wp2
              go_loopw [5, 40] (fun r i wr => (i = .int .i64 0 ∧ r = .string R ∧ Aside0 (Bx w wr w1.heap.size (.int .u8 (k : Int)) (.int .i64 0) (.int .i64 0) (.slice none 0 0))) ∨ (i = .int .i64 1 ∧ r = .string R1 ∧ Aside0 (Bx w wr w1.heap.size (.int .u8 (k : Int)) (.int .i64 n1) (.int .i64 0) (.slice none 0 0)))) (fun _ i _ => 2 - (intOf i).toNat)
              case atStart => exact .inl ⟨rfl, rfl, HX0⟩
              case round =>
                rcases hrel with ⟨rfl, rfl, HX⟩ | ⟨rfl, rfl, HX⟩
                · go_wp2_with (first
                    | (go_at_call 81; refine (HC1.out _).mono ?_; rintro e w2 ⟨rfl, hb⟩; have HX2 := Aside0.mk (HX.out.below hb); clear hb)
                    | (go_at_call 82; refine (HN1.out _ HX2.out.bel).mono ?_; rintro e w3 ⟨v, rfl, hv, hb⟩; obtain rfl : v = n1 := hv _ rfl; have HX3 := Aside0.mk (HX2.out.below hb); have hu3 := HU.out _ HX3.out.bel; have HX4 := Aside0.mk (HX3.out.put 1 (.int .i64 n1) rfl); obtain ⟨y0, y1, y2, y3, y4, y5, y6, y7⟩ := HX3.out.cells; obtain ⟨x0, x1, x2, x3, x4, x5, x6, x7⟩ := HX3.out.rcells; clear hb hv))
                  exact ⟨.inr ⟨rfl, rfl, HX4⟩, by decide⟩
                · go_wp2_with (first
                    | (go_at_call 81; refine (HC2.out _).mono ?_; rintro e w2 ⟨rfl, hb⟩; have HX2 := Aside0.mk (HX.out.below hb); clear hb)
                    | (go_at_call 82; refine (HN2.out _ HX2.out.bel).mono ?_; rintro e w3 ⟨v, rfl, hv, hb⟩; have HX3 := Aside0.mk (HX2.out.below hb); have hu3 := HU.out _ HX3.out.bel; obtain ⟨y0, y1, y2, y3, y4, y5, y6, y7⟩ := HX3.out.cells; obtain ⟨x0, x1, x2, x3, x4, x5, x6, x7⟩ := HX3.out.rcells; clear hb hv))
                  refine bodyPost_ret (res_step (HX3.out.ret _ _ _ _) rfl) rfl ?_
                  exact HP.out _ (HX3.out.retb _ _ _ _)
        | some n2 =>
          rw [hn2] at HN2
          simp only [Option.isSome] at HN2
          cases ho2 : (cutB (cutB (cutB s).2.1).2.1).2.2 with
          | true =>
            have HP := Aside0.mk (fun (W : World) (h : Below w.heap.size w W) => (show ParsePost s w (.returned (.tuple #[zstep, .int .i64 4])) W from ⟨h, by rw [if_neg h200, hP]; simp [parseK, hn1, h2, ho1, hn2, ho2]⟩))
            rw [ho2] at HC2
            clear ho1 h2 hK0 hn2 ho2
            clear hn1 h200 hP
            generalize (⟨(cutB (cutB (cutB s).2.1).2.1).1.toArray⟩ : ByteArray) = A2 at *
            generalize (⟨(cutB (cutB (cutB s).2.1).2.1).2.1.toArray⟩ : ByteArray) = R2 at *
            generalize (⟨(cutB (cutB s).2.1).1.toArray⟩ : ByteArray) = A1 at *
            generalize (⟨(cutB (cutB s).2.1).2.1.toArray⟩ : ByteArray) = R1 at *
            generalize (⟨(cutB s).1.toArray⟩ : ByteArray) = A at *
            generalize (⟨(cutB s).2.1.toArray⟩ : ByteArray) = R at *
            generalize (cutB s).2.2 = ok at *
            generalize (⟨s.toArray⟩ : ByteArray) = S at *
            go_enter Tryz.func38, Tryz.ntmps38
            go_wp2_with (go_at_call 81; refine (HC.out _).mono ?_; rintro e w1 ⟨rfl, hb⟩; have HB1 := Aside0.mk (HB0.out.trans (hb.mono HB0.out.size)); have HR1 := Aside0.mk (k_below HR0.out hb); obtain ⟨z0, z1, z2, z3, z4, z5, z6, z7, z8⟩ := HW.out w1 HB1.out; clear hb)
            go_loop [5, 27] (fun r i => ∃ k : Nat, k ≤ K ∧ i = .int .i64 k ∧ r = .string R) (fun _ i => 9 - (intOf i).toNat)
            case atStart => exact ⟨0, Nat.zero_le _, rfl, rfl⟩
            case round =>
              obtain ⟨k, hkK, rfl, rfl⟩ := hrel
              have hk9 : k < 9 := by omega
              have hk' : (k : Int) < 9 := by omega
              have hq := HQ.out k hk9
              have hidx := fun W => idx_words B k hk9 W
              rcases (show k < K ∨ k = K from by omega) with hk | rfl
              · simp only [decide_eq_false (show ¬ K = k by omega)] at hq
                clear HQ
                go_wp2
                exact ⟨⟨k + 1, by omega, by simp, rfl⟩, by simp [intOf]; omega⟩
              · simp only [decide_true] at hq
                clear HQ
                have HX0 := Aside0.mk (Bx.new HB1.out HR1.out (.int .u8 (k : Int)) (.int .i64 0) (.int .i64 0) (.slice none 0 0))
                have hu2 := HU.out _ HX0.out.bel
                go_wp2
                go_loopw [5, 40] (fun r i wr => (i = .int .i64 0 ∧ r = .string R ∧ Aside0 (Bx w wr w1.heap.size (.int .u8 (k : Int)) (.int .i64 0) (.int .i64 0) (.slice none 0 0))) ∨ (i = .int .i64 1 ∧ r = .string R1 ∧ Aside0 (Bx w wr w1.heap.size (.int .u8 (k : Int)) (.int .i64 n1) (.int .i64 0) (.slice none 0 0)))) (fun _ i _ => 2 - (intOf i).toNat)
                case atStart => exact .inl ⟨rfl, rfl, HX0⟩
                case round =>
                  rcases hrel with ⟨rfl, rfl, HX⟩ | ⟨rfl, rfl, HX⟩
                  · go_wp2_with (first
                      | (go_at_call 81; refine (HC1.out _).mono ?_; rintro e w2 ⟨rfl, hb⟩; have HX2 := Aside0.mk (HX.out.below hb); clear hb)
                      | (go_at_call 82; refine (HN1.out _ HX2.out.bel).mono ?_; rintro e w3 ⟨v, rfl, hv, hb⟩; obtain rfl : v = n1 := hv _ rfl; have HX3 := Aside0.mk (HX2.out.below hb); have hu3 := HU.out _ HX3.out.bel; have HX4 := Aside0.mk (HX3.out.put 1 (.int .i64 n1) rfl); obtain ⟨y0, y1, y2, y3, y4, y5, y6, y7⟩ := HX3.out.cells; obtain ⟨x0, x1, x2, x3, x4, x5, x6, x7⟩ := HX3.out.rcells; clear hb hv))
                    exact ⟨.inr ⟨rfl, rfl, HX4⟩, by decide⟩
                  · go_wp2_with (first
                      | (go_at_call 81; refine (HC2.out _).mono ?_; rintro e w2 ⟨rfl, hb⟩; have HX2 := Aside0.mk (HX.out.below hb); clear hb)
                      | (go_at_call 82; refine (HN2.out _ HX2.out.bel).mono ?_; rintro e w3 ⟨v, rfl, hv, hb⟩; obtain rfl : v = n2 := hv _ rfl; have HX3 := Aside0.mk (HX2.out.below hb); have hu3 := HU.out _ HX3.out.bel; obtain ⟨y0, y1, y2, y3, y4, y5, y6, y7⟩ := HX3.out.cells; obtain ⟨x0, x1, x2, x3, x4, x5, x6, x7⟩ := HX3.out.rcells; clear hb hv))
                    refine bodyPost_ret (res_step (HX3.out.ret _ _ _ _) rfl) rfl ?_
                    exact HP.out _ (HX3.out.retb _ _ _ _)
          | false =>
            have HP := Aside0.mk (fun (W : World) (h : Below w.heap.size w W) => (show ParsePost s w (.returned (.tuple #[.agg #[.int .u8 (K : Int), .int .i64 n1, .int .i64 n2, .slice none 0 0], .int .i64 0])) W from ⟨h, by rw [if_neg h200, hP]; simp [parseK, hn1, h2, ho1, hn2, ho2, hK0]⟩))
            rw [ho2] at HC2
            clear ho1 h2 hK0 hn2 ho2
            clear hn1 h200 hP
            generalize (⟨(cutB (cutB (cutB s).2.1).2.1).1.toArray⟩ : ByteArray) = A2 at *
            generalize (⟨(cutB (cutB (cutB s).2.1).2.1).2.1.toArray⟩ : ByteArray) = R2 at *
            generalize (⟨(cutB (cutB s).2.1).1.toArray⟩ : ByteArray) = A1 at *
            generalize (⟨(cutB (cutB s).2.1).2.1.toArray⟩ : ByteArray) = R1 at *
            generalize (⟨(cutB s).1.toArray⟩ : ByteArray) = A at *
            generalize (⟨(cutB s).2.1.toArray⟩ : ByteArray) = R at *
            generalize (cutB s).2.2 = ok at *
            generalize (⟨s.toArray⟩ : ByteArray) = S at *
            go_enter Tryz.func38, Tryz.ntmps38
            go_wp2_with (go_at_call 81; refine (HC.out _).mono ?_; rintro e w1 ⟨rfl, hb⟩; have HB1 := Aside0.mk (HB0.out.trans (hb.mono HB0.out.size)); have HR1 := Aside0.mk (k_below HR0.out hb); obtain ⟨z0, z1, z2, z3, z4, z5, z6, z7, z8⟩ := HW.out w1 HB1.out; clear hb)
            go_loop [5, 27] (fun r i => ∃ k : Nat, k ≤ K ∧ i = .int .i64 k ∧ r = .string R) (fun _ i => 9 - (intOf i).toNat)
            case atStart => exact ⟨0, Nat.zero_le _, rfl, rfl⟩
            case round =>
              obtain ⟨k, hkK, rfl, rfl⟩ := hrel
              have hk9 : k < 9 := by omega
              have hk' : (k : Int) < 9 := by omega
              have hq := HQ.out k hk9
              have hidx := fun W => idx_words B k hk9 W
              rcases (show k < K ∨ k = K from by omega) with hk | rfl
              · simp only [decide_eq_false (show ¬ K = k by omega)] at hq
                clear HQ
                go_wp2
                exact ⟨⟨k + 1, by omega, by simp, rfl⟩, by simp [intOf]; omega⟩
              · simp only [decide_true] at hq
                clear HQ
                have HX0 := Aside0.mk (Bx.new HB1.out HR1.out (.int .u8 (k : Int)) (.int .i64 0) (.int .i64 0) (.slice none 0 0))
                have hu2 := HU.out _ HX0.out.bel
                go_wp2
                go_loopw [5, 40] (fun r i wr => (i = .int .i64 0 ∧ r = .string R ∧ Aside0 (Bx w wr w1.heap.size (.int .u8 (k : Int)) (.int .i64 0) (.int .i64 0) (.slice none 0 0))) ∨ (i = .int .i64 1 ∧ r = .string R1 ∧ Aside0 (Bx w wr w1.heap.size (.int .u8 (k : Int)) (.int .i64 n1) (.int .i64 0) (.slice none 0 0))) ∨ (i = .int .i64 2 ∧ r = .string R2 ∧ Aside0 (Bx w wr w1.heap.size (.int .u8 (k : Int)) (.int .i64 n1) (.int .i64 n2) (.slice none 0 0)))) (fun _ i _ => 2 - (intOf i).toNat)
                case atStart => exact .inl ⟨rfl, rfl, HX0⟩
                case round =>
                  rcases hrel with ⟨rfl, rfl, HX⟩ | ⟨rfl, rfl, HX⟩ | ⟨rfl, rfl, HX⟩
                  · go_wp2_with (first
                      | (go_at_call 81; refine (HC1.out _).mono ?_; rintro e w2 ⟨rfl, hb⟩; have HX2 := Aside0.mk (HX.out.below hb); clear hb)
                      | (go_at_call 82; refine (HN1.out _ HX2.out.bel).mono ?_; rintro e w3 ⟨v, rfl, hv, hb⟩; obtain rfl : v = n1 := hv _ rfl; have HX3 := Aside0.mk (HX2.out.below hb); have hu3 := HU.out _ HX3.out.bel; have HX4 := Aside0.mk (HX3.out.put 1 (.int .i64 n1) rfl); obtain ⟨y0, y1, y2, y3, y4, y5, y6, y7⟩ := HX3.out.cells; obtain ⟨x0, x1, x2, x3, x4, x5, x6, x7⟩ := HX3.out.rcells; clear hb hv))
                    exact ⟨.inr (.inl ⟨rfl, rfl, HX4⟩), by decide⟩
                  · go_wp2_with (first
                      | (go_at_call 81; refine (HC2.out _).mono ?_; rintro e w2 ⟨rfl, hb⟩; have HX2 := Aside0.mk (HX.out.below hb); clear hb)
                      | (go_at_call 82; refine (HN2.out _ HX2.out.bel).mono ?_; rintro e w3 ⟨v, rfl, hv, hb⟩; obtain rfl : v = n2 := hv _ rfl; have HX3 := Aside0.mk (HX2.out.below hb); have hu3 := HU.out _ HX3.out.bel; have HX4 := Aside0.mk (HX3.out.put 2 (.int .i64 n2) rfl); obtain ⟨y0, y1, y2, y3, y4, y5, y6, y7⟩ := HX3.out.cells; obtain ⟨x0, x1, x2, x3, x4, x5, x6, x7⟩ := HX3.out.rcells; clear hb hv))
                    exact ⟨.inr (.inr ⟨rfl, rfl, HX4⟩), by decide⟩
                  · obtain ⟨y0, y1, y2, y3, y4, y5, y6, y7⟩ := HX.out.cells
                    obtain ⟨x0, x1, x2, x3, x4, x5, x6, x7⟩ := HX.out.rcells
                    go_wp2
                    refine bodyPost_ret (res_step (HX.out.ret _ _ _ _) rfl) rfl ?_
                    exact HP.out _ (HX.out.retb _ _ _ _)
    | false =>
      simp only [h2, Bool.false_eq_true, if_false] at HU
      clear HC2 HN2
      rcases Nat.eq_zero_or_pos K with rfl | hpos
      · cases ho1 : (cutB (cutB s).2.1).2.2 with
        | false =>
          have HP := Aside0.mk (fun (W : World) (h : Below w.heap.size w W) => (show ParsePost s w (.returned (.tuple #[zstep, .int .i64 4])) W from ⟨h, by rw [if_neg h200, hP]; simp [parseK, hn1, h2, ho1]⟩))
          rw [ho1] at HC1
          clear ho1 h2
          clear hn1 h200 hP
          generalize (⟨(cutB (cutB s).2.1).1.toArray⟩ : ByteArray) = A1 at *
          generalize (⟨(cutB (cutB s).2.1).2.1.toArray⟩ : ByteArray) = R1 at *
          generalize (⟨(cutB s).1.toArray⟩ : ByteArray) = A at *
          generalize (⟨(cutB s).2.1.toArray⟩ : ByteArray) = R at *
          generalize (cutB s).2.2 = ok at *
          generalize (⟨s.toArray⟩ : ByteArray) = S at *
          obtain ⟨K, hK0⟩ : ∃ K : Nat, K = 0 := ⟨0, rfl⟩
          have hz0 : ((K : Int) == 0) = true := by simp [hK0]
          rw [← hK0] at HQ HU hK eK
          clear hK0
          go_enter Tryz.func38, Tryz.ntmps38
          go_wp2_with (go_at_call 81; refine (HC.out _).mono ?_; rintro e w1 ⟨rfl, hb⟩; have HB1 := Aside0.mk (HB0.out.trans (hb.mono HB0.out.size)); have HR1 := Aside0.mk (k_below HR0.out hb); obtain ⟨z0, z1, z2, z3, z4, z5, z6, z7, z8⟩ := HW.out w1 HB1.out; clear hb)
          go_loop [5, 27] (fun r i => ∃ k : Nat, k ≤ K ∧ i = .int .i64 k ∧ r = .string R) (fun _ i => 9 - (intOf i).toNat)
          case atStart => exact ⟨0, Nat.zero_le _, rfl, rfl⟩
          case round =>
            obtain ⟨k, hkK, rfl, rfl⟩ := hrel
            have hk9 : k < 9 := by omega
            have hk' : (k : Int) < 9 := by omega
            have hq := HQ.out k hk9
            have hidx := fun W => idx_words B k hk9 W
            rcases (show k < K ∨ k = K from by omega) with hk | rfl
            · simp only [decide_eq_false (show ¬ K = k by omega)] at hq
              clear HQ
              go_wp2
              exact ⟨⟨k + 1, by omega, by simp, rfl⟩, by simp [intOf]; omega⟩
            · simp only [decide_true] at hq
              clear HQ
              have HX0 := Aside0.mk (Bx.new HB1.out HR1.out (.int .u8 (k : Int)) (.int .i64 0) (.int .i64 0) (.slice none 0 0))
              have hu2 := HU.out _ HX0.out.bel
              go_wp2
              go_loopw [5, 40] (fun r i wr => (i = .int .i64 0 ∧ r = .string R ∧ Aside0 (Bx w wr w1.heap.size (.int .u8 (k : Int)) (.int .i64 0) (.int .i64 0) (.slice none 0 0)))) (fun _ i _ => 2 - (intOf i).toNat)
              case atStart => exact ⟨rfl, rfl, HX0⟩
              case round =>
                rcases hrel with ⟨rfl, rfl, HX⟩
                · go_wp2_with (first
                    | (go_at_call 81; refine (HC1.out _).mono ?_; rintro e w2 ⟨rfl, hb⟩; have HX2 := Aside0.mk (HX.out.below hb); clear hb)
                    | (go_at_call 82; refine (HN1.out _ HX2.out.bel).mono ?_; rintro e w3 ⟨v, rfl, hv, hb⟩; obtain rfl : v = n1 := hv _ rfl; have HX3 := Aside0.mk (HX2.out.below hb); have hu3 := HU.out _ HX3.out.bel; obtain ⟨y0, y1, y2, y3, y4, y5, y6, y7⟩ := HX3.out.cells; obtain ⟨x0, x1, x2, x3, x4, x5, x6, x7⟩ := HX3.out.rcells; clear hb hv))
                  refine bodyPost_ret (res_step (HX3.out.ret _ _ _ _) rfl) rfl ?_
                  exact HP.out _ (HX3.out.retb _ _ _ _)
        | true =>
          have HP := Aside0.mk (fun (W : World) (h : Below w.heap.size w W) (b c : Nat) (cs : Array Value) (t : TypeId) (fr : Nat × Nat) (h1 : w.heap.size ≤ b) (h2' : W.heap[b]? = some (.cells cs t fr)) (h3 : (cutB (cutB s).2.1).2.1.length ≤ c) (h4 : c ≤ cs.size) (h5 : fr.1 = fr.2 ∨ cs.size ≤ fr.1) (h6 : ∀ k (hk : k < (cutB (cutB s).2.1).2.1.length), cs[k]? = some (.int .u8 ((cutB (cutB s).2.1).2.1[k].toNat : Int))) => (show ParsePost s w (.returned (.tuple #[.agg #[.int .u8 0, .int .i64 n1, .int .i64 0, .slice (some ⟨b, 0, none⟩) (cutB (cutB s).2.1).2.1.length c], .int .i64 0])) W from ⟨h, by rw [if_neg h200, hP]; simp only [parseK, hn1, h2, ho1]; exact ⟨_, rfl, by rw [if_pos rfl]; exact ⟨b, c, cs, t, fr, rfl, h1, h2', h3, h4, h5, h6⟩⟩⟩))
          rw [ho1] at HC1
          clear ho1 h2
          clear hn1 h200 hP
          generalize (cutB (cutB s).2.1).2.1 = m at *
          obtain ⟨R1, hR1⟩ : ∃ R1 : ByteArray, R1 = ⟨m.toArray⟩ := ⟨_, rfl⟩
          rw [← hR1] at HC1
          have hconv := fun W => Lib.run_convert_string_bytes (P := Tryz.prog) W 9 24 5 R1 Tryz.underlying9 Tryz.underlying24 Tryz.underlying5
          generalize (⟨(cutB (cutB s).2.1).1.toArray⟩ : ByteArray) = A1 at *
          generalize (⟨(cutB s).1.toArray⟩ : ByteArray) = A at *
          generalize (⟨(cutB s).2.1.toArray⟩ : ByteArray) = R at *
          generalize (cutB s).2.2 = ok at *
          generalize (⟨s.toArray⟩ : ByteArray) = S at *
          obtain ⟨K, hK0⟩ : ∃ K : Nat, K = 0 := ⟨0, rfl⟩
          have hz0 : ((K : Int) == 0) = true := by simp [hK0]
          rw [← hK0] at HQ HU hK eK
          have HK0 := Aside0.mk hK0
          have HR1E := Aside0.mk hR1
          clear hK0 hR1
          go_enter Tryz.func38, Tryz.ntmps38
          go_wp2_with (go_at_call 81; refine (HC.out _).mono ?_; rintro e w1 ⟨rfl, hb⟩; have HB1 := Aside0.mk (HB0.out.trans (hb.mono HB0.out.size)); have HR1 := Aside0.mk (k_below HR0.out hb); obtain ⟨z0, z1, z2, z3, z4, z5, z6, z7, z8⟩ := HW.out w1 HB1.out; clear hb)
          go_loop [5, 27] (fun r i => ∃ k : Nat, k ≤ K ∧ i = .int .i64 k ∧ r = .string R) (fun _ i => 9 - (intOf i).toNat)
          case atStart => exact ⟨0, Nat.zero_le _, rfl, rfl⟩
          case round =>
            obtain ⟨k, hkK, rfl, rfl⟩ := hrel
            have hk9 : k < 9 := by omega
            have hk' : (k : Int) < 9 := by omega
            have hq := HQ.out k hk9
            have hidx := fun W => idx_words B k hk9 W
            rcases (show k < K ∨ k = K from by omega) with hk | rfl
            · simp only [decide_eq_false (show ¬ K = k by omega)] at hq
              clear HQ
              go_wp2
              exact ⟨⟨k + 1, by omega, by simp, rfl⟩, by simp [intOf]; omega⟩
            · simp only [decide_true] at hq
              clear HQ
              have HX0 := Aside0.mk (Bx.new HB1.out HR1.out (.int .u8 (k : Int)) (.int .i64 0) (.int .i64 0) (.slice none 0 0))
              have hu2 := HU.out _ HX0.out.bel
              go_wp2
              go_loopw [5, 40] (fun r i wr => (i = .int .i64 0 ∧ r = .string R ∧ Aside0 (Bx w wr w1.heap.size (.int .u8 (k : Int)) (.int .i64 0) (.int .i64 0) (.slice none 0 0))) ∨ (i = .int .i64 1 ∧ r = .string R1 ∧ Aside0 (Bx w wr w1.heap.size (.int .u8 (k : Int)) (.int .i64 n1) (.int .i64 0) (.slice none 0 0)))) (fun _ i _ => 2 - (intOf i).toNat)
              case atStart => exact .inl ⟨rfl, rfl, HX0⟩
              case round =>
                rcases hrel with ⟨rfl, rfl, HX⟩ | ⟨rfl, rfl, HX⟩
                · go_wp2_with (first
                    | (go_at_call 81; refine (HC1.out _).mono ?_; rintro e w2 ⟨rfl, hb⟩; have HX2 := Aside0.mk (HX.out.below hb); clear hb)
                    | (go_at_call 82; refine (HN1.out _ HX2.out.bel).mono ?_; rintro e w3 ⟨v, rfl, hv, hb⟩; obtain rfl : v = n1 := hv _ rfl; have HX3 := Aside0.mk (HX2.out.below hb); have hu3 := HU.out _ HX3.out.bel; have HX4 := Aside0.mk (HX3.out.put 1 (.int .i64 n1) rfl); obtain ⟨y0, y1, y2, y3, y4, y5, y6, y7⟩ := HX3.out.cells; obtain ⟨x0, x1, x2, x3, x4, x5, x6, x7⟩ := HX3.out.rcells; clear hb hv))
                  exact ⟨.inr ⟨rfl, rfl, HX4⟩, by decide⟩
                · have HXb := Aside0.mk (HX.out.below (Lib.bytesWorld_below wr 5 R1))
                  have hc := hconv wr
                  clear hconv
                  have HNW := Aside0.mk (Lib.bytesWorld_at_new wr 5 R1)
                  have HCS := Aside0.mk (bytes_cells wr 5 m R1 HR1E.out)
                  have hwl : w.heap.size ≤ wr.heap.size := HX.out.bel.size
                  have hgl : w1.heap.size < wr.heap.size := k_lt HX.out.box
                  have hne : w.heap.size ≠ w1.heap.size := Nat.ne_of_lt HX.out.hg
                  have hne2 : w1.heap.size ≠ w.heap.size := hne.symm
                  generalize Lib.bytesWorld wr 5 R1 = WB at *
                  generalize Lib.bytesCells wr 5 R1 = cb at *
                  generalize grownCap wr R1.size 0 5 = cp at *
                  obtain ⟨y0, y1, y2, y3, y4, y5, y6, y7⟩ := HXb.out.cells
                  obtain ⟨x0, x1, x2, x3, x4, x5, x6, x7⟩ := HXb.out.rcells
                  go_wp2
                  obtain ⟨s1, s2, s3, s4⟩ := HCS.out
                  have hk0 := HK0.out
                  refine bodyPost_ret (res_step ((HXb.out.put 3 _ rfl).ret _ _ _ _) rfl) rfl ?_
                  rw [s1]
                  have hfin := HP.out _ ((HXb.out.put 3 (.slice (some ⟨wr.heap.size, 0, none⟩) m.length cp) rfl).retb (.int .u8 (k : Int)) (.int .i64 n1) (.int .i64 0) (.slice (some ⟨wr.heap.size, 0, none⟩) m.length cp)) wr.heap.size cp cb _ _ hwl (k_far (k_far (k_far (k_far (k_far HNW.out (p := ⟨w1.heap.size, 3, none⟩) (Nat.ne_of_gt hgl) _) (p := ⟨w.heap.size, 0, none⟩) (Nat.ne_of_gt (Nat.lt_trans HX.out.hg hgl)) _) (p := ⟨w.heap.size, 1, none⟩) (Nat.ne_of_gt (Nat.lt_trans HX.out.hg hgl)) _) (p := ⟨w.heap.size, 2, none⟩) (Nat.ne_of_gt (Nat.lt_trans HX.out.hg hgl)) _) (p := ⟨w.heap.size, 3, none⟩) (Nat.ne_of_gt (Nat.lt_trans HX.out.hg hgl)) _) s2 s3 (.inr (Nat.le_refl _)) s4
                  rw [hk0]
                  rw [hk0] at hfin
                  exact hfin
      · have hK0 : K ≠ 0 := by omega
        have hz0 : ((K : Int) == 0) = false := by simpa using hK0
        cases ho1 : (cutB (cutB s).2.1).2.2 with
        | true =>
          have HP := Aside0.mk (fun (W : World) (h : Below w.heap.size w W) => (show ParsePost s w (.returned (.tuple #[zstep, .int .i64 4])) W from ⟨h, by rw [if_neg h200, hP]; simp [parseK, hn1, h2, ho1, hK0]⟩))
          rw [ho1] at HC1
          clear ho1 h2 hK0 hpos
          clear hn1 h200 hP
          generalize (⟨(cutB (cutB s).2.1).1.toArray⟩ : ByteArray) = A1 at *
          generalize (⟨(cutB (cutB s).2.1).2.1.toArray⟩ : ByteArray) = R1 at *
          generalize (⟨(cutB s).1.toArray⟩ : ByteArray) = A at *
          generalize (⟨(cutB s).2.1.toArray⟩ : ByteArray) = R at *
          generalize (cutB s).2.2 = ok at *
          generalize (⟨s.toArray⟩ : ByteArray) = S at *
          go_enter Tryz.func38, Tryz.ntmps38
          go_wp2_with (go_at_call 81; refine (HC.out _).mono ?_; rintro e w1 ⟨rfl, hb⟩; have HB1 := Aside0.mk (HB0.out.trans (hb.mono HB0.out.size)); have HR1 := Aside0.mk (k_below HR0.out hb); obtain ⟨z0, z1, z2, z3, z4, z5, z6, z7, z8⟩ := HW.out w1 HB1.out; clear hb)
          go_loop [5, 27] (fun r i => ∃ k : Nat, k ≤ K ∧ i = .int .i64 k ∧ r = .string R) (fun _ i => 9 - (intOf i).toNat)
          case atStart => exact ⟨0, Nat.zero_le _, rfl, rfl⟩
          case round =>
            obtain ⟨k, hkK, rfl, rfl⟩ := hrel
            have hk9 : k < 9 := by omega
            have hk' : (k : Int) < 9 := by omega
            have hq := HQ.out k hk9
            have hidx := fun W => idx_words B k hk9 W
            rcases (show k < K ∨ k = K from by omega) with hk | rfl
            · simp only [decide_eq_false (show ¬ K = k by omega)] at hq
              clear HQ
              go_wp2
              exact ⟨⟨k + 1, by omega, by simp, rfl⟩, by simp [intOf]; omega⟩
            · simp only [decide_true] at hq
              clear HQ
              have HX0 := Aside0.mk (Bx.new HB1.out HR1.out (.int .u8 (k : Int)) (.int .i64 0) (.int .i64 0) (.slice none 0 0))
              have hu2 := HU.out _ HX0.out.bel
              go_wp2
              go_loopw [5, 40] (fun r i wr => (i = .int .i64 0 ∧ r = .string R ∧ Aside0 (Bx w wr w1.heap.size (.int .u8 (k : Int)) (.int .i64 0) (.int .i64 0) (.slice none 0 0)))) (fun _ i _ => 2 - (intOf i).toNat)
              case atStart => exact ⟨rfl, rfl, HX0⟩
              case round =>
                rcases hrel with ⟨rfl, rfl, HX⟩
                · go_wp2_with (first
                    | (go_at_call 81; refine (HC1.out _).mono ?_; rintro e w2 ⟨rfl, hb⟩; have HX2 := Aside0.mk (HX.out.below hb); clear hb)
                    | (go_at_call 82; refine (HN1.out _ HX2.out.bel).mono ?_; rintro e w3 ⟨v, rfl, hv, hb⟩; obtain rfl : v = n1 := hv _ rfl; have HX3 := Aside0.mk (HX2.out.below hb); have hu3 := HU.out _ HX3.out.bel; obtain ⟨y0, y1, y2, y3, y4, y5, y6, y7⟩ := HX3.out.cells; obtain ⟨x0, x1, x2, x3, x4, x5, x6, x7⟩ := HX3.out.rcells; clear hb hv))
                  refine bodyPost_ret (res_step (HX3.out.ret _ _ _ _) rfl) rfl ?_
                  exact HP.out _ (HX3.out.retb _ _ _ _)
        | false =>
          have HP := Aside0.mk (fun (W : World) (h : Below w.heap.size w W) => (show ParsePost s w (.returned (.tuple #[.agg #[.int .u8 (K : Int), .int .i64 n1, .int .i64 0, .slice none 0 0], .int .i64 0])) W from ⟨h, by rw [if_neg h200, hP]; simp [parseK, hn1, h2, ho1, hK0, (show (K == 0) = false by simpa using hK0)]⟩))
          rw [ho1] at HC1
          clear ho1 h2 hK0 hpos
          clear hn1 h200 hP
          generalize (⟨(cutB (cutB s).2.1).1.toArray⟩ : ByteArray) = A1 at *
          generalize (⟨(cutB (cutB s).2.1).2.1.toArray⟩ : ByteArray) = R1 at *
          generalize (⟨(cutB s).1.toArray⟩ : ByteArray) = A at *
          generalize (⟨(cutB s).2.1.toArray⟩ : ByteArray) = R at *
          generalize (cutB s).2.2 = ok at *
          generalize (⟨s.toArray⟩ : ByteArray) = S at *
          go_enter Tryz.func38, Tryz.ntmps38
          go_wp2_with (go_at_call 81; refine (HC.out _).mono ?_; rintro e w1 ⟨rfl, hb⟩; have HB1 := Aside0.mk (HB0.out.trans (hb.mono HB0.out.size)); have HR1 := Aside0.mk (k_below HR0.out hb); obtain ⟨z0, z1, z2, z3, z4, z5, z6, z7, z8⟩ := HW.out w1 HB1.out; clear hb)
          go_loop [5, 27] (fun r i => ∃ k : Nat, k ≤ K ∧ i = .int .i64 k ∧ r = .string R) (fun _ i => 9 - (intOf i).toNat)
          case atStart => exact ⟨0, Nat.zero_le _, rfl, rfl⟩
          case round =>
            obtain ⟨k, hkK, rfl, rfl⟩ := hrel
            have hk9 : k < 9 := by omega
            have hk' : (k : Int) < 9 := by omega
            have hq := HQ.out k hk9
            have hidx := fun W => idx_words B k hk9 W
            rcases (show k < K ∨ k = K from by omega) with hk | rfl
            · simp only [decide_eq_false (show ¬ K = k by omega)] at hq
              clear HQ
              go_wp2
              exact ⟨⟨k + 1, by omega, by simp, rfl⟩, by simp [intOf]; omega⟩
            · simp only [decide_true] at hq
              clear HQ
              have HX0 := Aside0.mk (Bx.new HB1.out HR1.out (.int .u8 (k : Int)) (.int .i64 0) (.int .i64 0) (.slice none 0 0))
              have hu2 := HU.out _ HX0.out.bel
              go_wp2
              go_loopw [5, 40] (fun r i wr => (i = .int .i64 0 ∧ r = .string R ∧ Aside0 (Bx w wr w1.heap.size (.int .u8 (k : Int)) (.int .i64 0) (.int .i64 0) (.slice none 0 0))) ∨ (i = .int .i64 1 ∧ r = .string R1 ∧ Aside0 (Bx w wr w1.heap.size (.int .u8 (k : Int)) (.int .i64 n1) (.int .i64 0) (.slice none 0 0)))) (fun _ i _ => 2 - (intOf i).toNat)
              case atStart => exact .inl ⟨rfl, rfl, HX0⟩
              case round =>
                rcases hrel with ⟨rfl, rfl, HX⟩ | ⟨rfl, rfl, HX⟩
                · go_wp2_with (first
                    | (go_at_call 81; refine (HC1.out _).mono ?_; rintro e w2 ⟨rfl, hb⟩; have HX2 := Aside0.mk (HX.out.below hb); clear hb)
                    | (go_at_call 82; refine (HN1.out _ HX2.out.bel).mono ?_; rintro e w3 ⟨v, rfl, hv, hb⟩; obtain rfl : v = n1 := hv _ rfl; have HX3 := Aside0.mk (HX2.out.below hb); have hu3 := HU.out _ HX3.out.bel; have HX4 := Aside0.mk (HX3.out.put 1 (.int .i64 n1) rfl); obtain ⟨y0, y1, y2, y3, y4, y5, y6, y7⟩ := HX3.out.cells; obtain ⟨x0, x1, x2, x3, x4, x5, x6, x7⟩ := HX3.out.rcells; clear hb hv))
                  exact ⟨.inr ⟨rfl, rfl, HX4⟩, by decide⟩
                · obtain ⟨y0, y1, y2, y3, y4, y5, y6, y7⟩ := HX.out.cells
                  obtain ⟨x0, x1, x2, x3, x4, x5, x6, x7⟩ := HX.out.rcells
                  go_wp2
                  refine bodyPost_ret (res_step (HX.out.ret _ _ _ _) rfl) rfl ?_
                  exact HP.out _ (HX.out.retb _ _ _ _)
set_option maxHeartbeats 4000000 in
set_option maxRecDepth 100000 in
theorem Parse_calls (s : List UInt8) (hs : s.length ≤ 281474976710656) (w : World) (hT : Tabs w) :
    Calls Tryz.prog 38 #[str s] w (ParsePost s w) := by
  have hz : (⟨s.toArray⟩ : ByteArray).size = s.length := str_size s
  have HC := Aside0.mk (fun W => Cut_calls s hs W)
  have HB0 := Aside0.mk (Below.alloc (Below.refl _ w) (Nat.le_refl _) (.cells #[.int .u8 0, .int .i64 0, .int .i64 0, .slice none 0 0] 62 (0, 0)))
  have HR0 := Aside0.mk (show (w.alloc (.cells #[.int .u8 0, .int .i64 0, .int .i64 0, .slice none 0 0] 62 (0, 0))).heap[w.heap.size]? = _ from (below_box (Below.refl _ _)).2.1)
  simp only [str] at HC ⊢
  by_cases h200 : 200 < s.length
  · have HP := Aside0.mk (fun (W : World) (h : Below w.heap.size w W) => (show ParsePost s w (.returned (.tuple #[zstep, .int .i64 2])) W from ⟨h, by rw [if_pos h200]⟩))
    have q1 : decide (200 < (((⟨s.toArray⟩ : ByteArray).size : Nat) : Int)) = true := by simp; omega
    clear hz hs hT HC h200
    generalize (⟨s.toArray⟩ : ByteArray) = S at *
    go_enter Tryz.func38, Tryz.ntmps38
    go_wp2
    refine bodyPost_ret (res_step HR0.out rfl) rfl ?_
    exact HP.out _ HB0.out
  · have q1 : decide (200 < (((⟨s.toArray⟩ : ByteArray).size : Nat) : Int)) = false := by simp; omega
    obtain ⟨B, hB⟩ : ∃ B : Nat → ByteArray, ∀ k, B k = ⟨(word k).toArray⟩ := ⟨_, fun _ => rfl⟩
    have HW := Aside0.mk (fun (W : World) (h : Below w.heap.size w W) => (show W.cell? ⟨0, 0, none⟩ = some (.string (B 0)) ∧ W.cell? ⟨0, 1, none⟩ = some (.string (B 1)) ∧ W.cell? ⟨0, 2, none⟩ = some (.string (B 2)) ∧ W.cell? ⟨0, 3, none⟩ = some (.string (B 3)) ∧ W.cell? ⟨0, 4, none⟩ = some (.string (B 4)) ∧ W.cell? ⟨0, 5, none⟩ = some (.string (B 5)) ∧ W.cell? ⟨0, 6, none⟩ = some (.string (B 6)) ∧ W.cell? ⟨0, 7, none⟩ = some (.string (B 7)) ∧ W.cell? ⟨0, 8, none⟩ = some (.string (B 8)) from by
      simp only [hB]; exact (hT.below h).words))
    have HQ := Aside0.mk (fun (k : Nat) (hk : k < 9) => (show ((B k).toList == (⟨(cutB s).1.toArray⟩ : ByteArray).toList) = decide (kindOf (cutB s).1 = some k) from by
      rw [hB, str_toList, str_toList]
      by_cases h : word k = (cutB s).1
      · rw [← h, (kind_word k hk).1]; simp
      · have : kindOf (cutB s).1 ≠ some k := fun e => h (kind_some e).2
        simp [h, this]))
    have HTB := Aside0.mk (fun W (h : Below w.heap.size w W) => hT.below h)
    clear hB hT
    cases hk : kindOf (cutB s).1 with
    | none =>
      have HP := Aside0.mk (fun (W : World) (h : Below w.heap.size w W) => (show ParsePost s w (.returned (.tuple #[zstep, .int .i64 4])) W from ⟨h, by rw [if_neg h200]; simp only [parseP, hk]⟩))
      rw [hk] at HQ
      clear hz hs hk h200 HTB
      generalize (⟨(cutB s).1.toArray⟩ : ByteArray) = A at *
      generalize (⟨(cutB s).2.1.toArray⟩ : ByteArray) = R at *
      generalize (cutB s).2.2 = ok at *
      generalize (⟨s.toArray⟩ : ByteArray) = S at *
      go_enter Tryz.func38, Tryz.ntmps38
      go_wp2_with (go_at_call 81; refine (HC.out _).mono ?_; rintro e w1 ⟨rfl, hb⟩; have HB1 := Aside0.mk (HB0.out.trans (hb.mono HB0.out.size)); have HR1 := Aside0.mk (k_below HR0.out hb); obtain ⟨z0, z1, z2, z3, z4, z5, z6, z7, z8⟩ := HW.out w1 HB1.out; obtain ⟨y0, y1, y2, y3, y4, y5, y6, y7⟩ := k_cells (k_below HR0.out hb); clear hb)
      go_loop [27] (fun i => ∃ k : Nat, k ≤ 9 ∧ i = .int .i64 k) (fun i => 9 - (intOf i).toNat)
      case atStart => exact ⟨0, by omega, rfl⟩
      case round =>
        obtain ⟨k, hk9, rfl⟩ := hrel
        rcases (show k = 9 ∨ k < 9 from by omega) with rfl | hk
        · go_wp2
          refine bodyPost_ret (res_step (k_put4 HR1.out _ _ _ _) rfl) rfl ?_
          exact HP.out _ ((((HB1.out.setCell (Nat.le_refl _) _).setCell (Nat.le_refl _) _).setCell (Nat.le_refl _) _).setCell (Nat.le_refl _) _)
        · have hq := HQ.out k hk
          simp only [reduceCtorEq, decide_false] at hq
          have hidx := fun W => idx_words B k hk W
          have hk' : (k : Int) < 9 := by omega
          clear HQ
          go_wp2
          exact ⟨⟨k + 1, by omega, by simp⟩, by simp [intOf]; omega⟩
    | some K => exact Parse_some s (by assumption) w (HTB.out w (Below.refl _ _)) h200 K hk
end Go.Proofs.YtefleapekgbpcaaGreatDoor.Shl
