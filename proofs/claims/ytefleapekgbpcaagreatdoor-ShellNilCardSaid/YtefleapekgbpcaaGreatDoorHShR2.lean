/- The law's word and read: the walks. -/
import Derived.Test.YtefleapekgbpcaaGreatDoorHShC
namespace Go.Proofs.YtefleapekgbpcaaGreatDoor.Shl
open Go.RowKit
set_option linter.unusedVariables false
set_option linter.unusedSimpArgs false
def nums (k : Nat) : Int := if k < 9 then (if two k then 2 else 1) else 0
set_option maxHeartbeats 4000000 in
set_option maxRecDepth 100000 in
theorem word_calls (k : Nat) (hk : k < 9) (w : World) :
    Calls Tryz.prog 83 #[.int .u8 k] w fun e w' => e = .returned (.tuple #[str (word k), .int .i64 (nums k)]) ∧ Below w.heap.size w w' := by
  have HB := Aside0.mk (fun o => Below.alloc (Below.refl _ w) (Nat.le_refl _) o)
  match k, hk with
  | 0, _ => (go_enter Tryz.func83, Tryz.ntmps83; go_wp2; go_ret2; exact ⟨rfl, HB.out _⟩)
  | 1, _ => (go_enter Tryz.func83, Tryz.ntmps83; go_wp2; go_ret2; exact ⟨rfl, HB.out _⟩)
  | 2, _ => (go_enter Tryz.func83, Tryz.ntmps83; go_wp2; go_ret2; exact ⟨rfl, HB.out _⟩)
  | 3, _ => (go_enter Tryz.func83, Tryz.ntmps83; go_wp2; go_ret2; exact ⟨rfl, HB.out _⟩)
  | 4, _ => (go_enter Tryz.func83, Tryz.ntmps83; go_wp2; go_ret2; exact ⟨rfl, HB.out _⟩)
  | 5, _ => (go_enter Tryz.func83, Tryz.ntmps83; go_wp2; go_ret2; exact ⟨rfl, HB.out _⟩)
  | 6, _ => (go_enter Tryz.func83, Tryz.ntmps83; go_wp2; go_ret2; exact ⟨rfl, HB.out _⟩)
  | 7, _ => (go_enter Tryz.func83, Tryz.ntmps83; go_wp2; go_ret2; exact ⟨rfl, HB.out _⟩)
  | 8, _ => (go_enter Tryz.func83, Tryz.ntmps83; go_wp2; go_ret2; exact ⟨rfl, HB.out _⟩)
/-- A slice of bytes: what it holds. -/
def Bt (w : World) (v : Value) (m : List UInt8) : Prop := (v = .slice none 0 0 ∧ m = []) ∨ ∃ b c cs t fr, v = .slice (some ⟨b, 0, none⟩) m.length c ∧ w.heap[b]? = some (.cells cs t fr) ∧ ∀ k (hk : k < m.length), cs[k]? = some (.int .u8 (m[k].toNat : Int))
theorem Bt.below {w w' : World} {v : Value} {m : List UInt8} (h : Bt w v m) (hb : Below w.heap.size w w') : Bt w' v m := by
  rcases h with h | ⟨b, c, cs, t, fr, h1, h2, h3⟩
  · exact .inl h
  · exact .inr ⟨b, c, cs, t, fr, h1, k_below h2 hb, h3⟩
/-- What read answers. -/
def ReadPost (s : List UInt8) (w : World) (e : Ending) (w' : World) : Prop := Below w.heap.size w w' ∧ ∃ (a b c : Int) (ad : Option Addr) (dl dc : Nat), e = .returned (.tuple #[.agg #[.int .u8 a, .int .i64 b, .int .i64 c, .slice ad dl dc], .bool (parseP s).isSome]) ∧
  ∀ k i j m, parseP s = some (k, i, j, m) → a = (k : Int) ∧ b = (i : Int) ∧ c = (j : Int) ∧ Bt w' (.slice ad dl dc) m
theorem res_read {w : World} {tm : Array Value} {g : Nat} {a b c d : Value} {t : TypeId} (hg : w.heap[g]? = some (.cells #[a, b, c, d] t (0, 0))) (hp : tm.getD 2 undef = .pointer (some ⟨g, 0, none⟩)) :
    (results Tryz.f39 tm).run Tryz.prog w = .ok (.tuple #[.agg #[a, b, c, d], tm.getD 3 undef]) w :=
  res_ct rfl tm w g t _ (0, 0) _ hp hg Tryz.underlying62 rfl (by kernel_rfl)
theorem alloc_size (w : World) (o : Obj) : (w.alloc o).heap.size = w.heap.size + 1 := by show (w.heap.push _).size = _; simp
theorem numV_cases (l : List UInt8) : (numP l = none ∧ numV l = -1 ∧ decide (0 ≤ numV l) = false) ∨ ∃ n : Nat, numP l = some n ∧ numV l = n ∧ decide (0 ≤ numV l) = true := by
  unfold numV
  cases h : numP l with
  | none => exact .inl ⟨rfl, rfl, by decide⟩
  | some n => exact .inr ⟨n, rfl, rfl, by simp⟩
set_option maxHeartbeats 40000000 in
set_option maxRecDepth 100000 in
theorem read_none (s : List UInt8) (hs : s.length ≤ 281474976710656) (w : World) (hk : kindOf (cutB s).1 = none) :
    Calls Tryz.prog 39 #[str s] w (ReadPost s w) := by
  have hr := (cut_len s).2
  have ha1 := (cut_len (cutB s).2.1).1
  have hr1 := (cut_len (cutB s).2.1).2
  have ha2 := (cut_len (cutB (cutB s).2.1).2.1).1
  have HC := Aside0.mk (fun W => lawCut_calls s hs W)
  have HC1 := Aside0.mk (fun W => lawCut_calls (cutB s).2.1 (by omega) W)
  have HC2 := Aside0.mk (fun W => lawCut_calls (cutB (cutB s).2.1).2.1 (by omega) W)
  have HN1 := Aside0.mk (fun W => lawNumber_calls (cutB (cutB s).2.1).1 (by omega) W)
  have HN2 := Aside0.mk (fun W => lawNumber_calls (cutB (cutB (cutB s).2.1).2.1).1 (by omega) W)
  have HB0 := Aside0.mk (Below.alloc (Below.refl _ w) (Nat.le_refl _) (.cells #[.int .u8 0, .int .i64 0, .int .i64 0, .slice none 0 0] 62 (0, 0)))
  have HR0 := Aside0.mk (show (w.alloc (.cells #[.int .u8 0, .int .i64 0, .int .i64 0, .slice none 0 0] 62 (0, 0))).heap[w.heap.size]? = _ from (below_box (Below.refl _ _)).2.1)
  simp only [str] at HC HC1 HC2 HN1 HN2 ⊢
  obtain ⟨B, hB⟩ : ∃ B : Nat → ByteArray, ∀ k, B k = ⟨(word k).toArray⟩ := ⟨_, fun _ => rfl⟩
  have HWD := Aside0.mk (fun (k : Nat) (hk : k < 9) (W : World) => (show Calls Tryz.prog 83 #[.int .u8 k] W (fun e w' => e = .returned (.tuple #[.string (B k), .int .i64 (nums k)]) ∧ Below W.heap.size W w') from by rw [hB]; exact word_calls k hk W))
  have HQ := Aside0.mk (fun (k : Nat) (hk9 : k < 9) => (show ((B k).toList == (⟨(cutB s).1.toArray⟩ : ByteArray).toList) = false from by
    rw [hB, str_toList, str_toList]
    have := kind_none hk k hk9
    simpa using this))
  have HP := Aside0.mk (fun (W : World) (h : Below w.heap.size w W) => (show ReadPost s w (.returned (.tuple #[zstep, .bool false])) W from ⟨h, _, _, _, _, _, _, by unfold parseP; rw [hk]; rfl, fun k i j m e => by unfold parseP at e; rw [hk] at e; cases e⟩))
  simp only [zstep] at HP
  clear hB hk hr ha1 hr1 ha2 hs HC1 HC2 HN1 HN2
  generalize (⟨(cutB s).1.toArray⟩ : ByteArray) = A at *
  generalize (⟨(cutB s).2.1.toArray⟩ : ByteArray) = R at *
  generalize (cutB s).2.2 = ok at *
  generalize (⟨s.toArray⟩ : ByteArray) = S at *
  go_enter Tryz.func39, Tryz.ntmps39
  go_wp2_with (go_at_call 41; refine (HC.out _).mono ?_; rintro e w1 ⟨rfl, hb⟩; have HB1 := Aside0.mk (HB0.out.trans (hb.mono HB0.out.size)); have HR1 := Aside0.mk (k_below HR0.out hb); clear hb)
  go_loopw [7] (fun i wr => ∃ k : Nat, k ≤ 9 ∧ i = .int .u8 k ∧ Aside0 (Below w.heap.size w wr) ∧ Aside0 (wr.heap[w.heap.size]? = some (.cells #[.int .u8 0, .int .i64 0, .int .i64 0, .slice none 0 0] 62 (0, 0)))) (fun i _ => 9 - (intOf i).toNat)
  case atStart => exact ⟨0, Nat.zero_le _, rfl, HB1, HR1⟩
  case round =>
    obtain ⟨k, hk9, rfl, HB, HR⟩ := hrel
    rcases (show k = 9 ∨ k < 9 from by omega) with rfl | hk
    · obtain ⟨y0, y1, y2, y3, y4, y5, y6, y7⟩ := k_cells HR.out
      go_wp2
      refine bodyPost_ret (res_read (k_put4 HR.out _ _ _ _) rfl) rfl ?_
      exact HP.out _ ((((HB.out.setCell (Nat.le_refl _) _).setCell (Nat.le_refl _) _).setCell (Nat.le_refl _) _).setCell (Nat.le_refl _) _)
    · have hq := HQ.out k hk
      have hk' : (k : Int) < 9 := by omega
      clear HQ
      go_wp2_with (go_at_call 83; refine (HWD.out k hk _).mono ?_; rintro e w2 ⟨rfl, hb⟩; have HB2 := Aside0.mk (below_trans HB.out hb); have HR2 := Aside0.mk (k_below HR.out hb); clear hb)
      exact ⟨⟨k + 1, by omega, by simp, HB2, HR2⟩, by simp [intOf]; omega⟩
end Go.Proofs.YtefleapekgbpcaaGreatDoor.Shl
