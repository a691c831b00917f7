/- The shell's small functions: what stands ahead of a blank (strings.Cut, the law's cut). -/
import Derived.Test.YtefleapekgbpcaaGreatDoorLay
import Derived.Test.YtefleapekgbpcaaGreatDoorEShell
import Derived.WalkKit
import Derived.Below
import Derived.KernelRfl
import Derived.Lib.CutLaws
import Derived.Lib.Strings
import Derived.Shelf.RegionOpenPlain
import Derived.BigCall
import Derived.BigGuard
namespace Go.Proofs.YtefleapekgbpcaaGreatDoor.Shl
open Go.RowKit
set_option linter.unusedVariables false
set_option linter.unusedSimpArgs false
structure Aside0 (p : Prop) : Prop where mk :: (out : p)
theorem below_trans {w w1 w2 : World} (h : Below w.heap.size w w1) (k : Below w1.heap.size w1 w2) : Below w.heap.size w w2 := h.trans (k.mono h.size)
/-- Bytes as a string. -/
abbrev str (l : List UInt8) : Value := .string ⟨l.toArray⟩
theorem str_take (a r : List UInt8) : (⟨(a ++ 32 :: r).toArray⟩ : ByteArray).extract 0 a.length = ⟨a.toArray⟩ := by
  rw [Lib.extract_eq]; simp
theorem str_drop (a r : List UInt8) : (⟨(a ++ 32 :: r).toArray⟩ : ByteArray).extract (a.length + 1) (a ++ 32 :: r).length = ⟨r.toArray⟩ := by
  rw [Lib.extract_eq]
  congr 2
  have e : List.drop (a.length + 1) (a ++ 32 :: r) = r := by simp
  have h2 : (⟨(a ++ 32 :: r).toArray⟩ : ByteArray).data.toList = a ++ 32 :: r := by simp
  rw [h2, e, List.take_of_length_le (by simp; omega)]
theorem str_size (l : List UInt8) : (⟨l.toArray⟩ : ByteArray).size = l.length := by simp [ByteArray.size]
set_option maxHeartbeats 1000000 in
set_option maxRecDepth 100000 in
theorem liteCut_calls (s : List UInt8) (hs : s.length ≤ 281474976710656) (w : World) :
    Calls Tryz.prog 152 #[str s, .string ⟨#[32]⟩] w fun e w' => e = .returned (.tuple #[str (cutB s).1, str (cutB s).2.1, .bool (cutB s).2.2]) ∧ Below w.heap.size w w' := by
  rcases cut_cases s with ⟨h1, h2⟩ | ⟨a, r, rfl, h2, h3⟩
  · have hix := idx_miss h2
    have HI := Aside0.mk (fun W : World => (Tryz.stringslite_Index_one ⟨s.toArray⟩ 32 W).mono (R' := fun e w' => e = .returned (.int .i64 (-1)) ∧ w' = W) fun e w' h => ⟨h.1.trans (by rw [show Lib.indexByte (⟨s.toArray⟩ : ByteArray).data.toList 32 = -1 from hix]), h.2⟩)
    rw [h1]
    clear h1 h2 hix
    simp only [str]
    generalize (⟨s.toArray⟩ : ByteArray) = S at *
    go_enter Tryz.func152, Tryz.ntmps152
    go_wp2_with (go_at_call 219; refine (HI.out _).mono ?_; rintro e w' ⟨rfl, rfl⟩)
    go_ret3
    exact ⟨rfl, Below.refl _ _⟩
  · have hix := idx_hit r h2
    have HI := Aside0.mk (fun W : World => (Tryz.stringslite_Index_one ⟨(a ++ 32 :: r).toArray⟩ 32 W).mono (R' := fun e w' => e = .returned (.int .i64 a.length) ∧ w' = W) fun e w' h => ⟨h.1.trans (by rw [show Lib.indexByte (⟨(a ++ 32 :: r).toArray⟩ : ByteArray).data.toList 32 = a.length from hix]), h.2⟩)
    rw [h3]
    clear h3 h2 hix
    simp only [str]
    rw [← str_take a r, ← str_drop a r, ← str_size (a ++ 32 :: r)]
    have hsz := str_size (a ++ 32 :: r)
    have hlen : (a ++ 32 :: r).length = a.length + r.length + 1 := by simp; omega
    have hz : (⟨(a ++ 32 :: r).toArray⟩ : ByteArray).size < 4294967296000000 := by rw [hsz]; omega
    rw [hlen] at hsz
    clear hs
    clear hlen
    generalize (⟨(a ++ 32 :: r).toArray⟩ : ByteArray) = S at *
    generalize a.length = n at *
    generalize r.length = m at *
    have c1 : (0 : Int) ≤ ↑n := by omega
    have c2 : (↑n : Int) ≤ ↑S.size := by omega
    have c3 : (0 : Int) ≤ ↑n + 1 := by omega
    have c4 : (↑n + 1 : Int) ≤ ↑S.size := by omega
    clear hsz
    have mixed : Tryz.prog.follows .mixedOrders = true := by kernel_rfl
    go_enter Tryz.func152, Tryz.ntmps152
    go_wp2_with (go_at_call 219; refine (HI.out _).mono ?_; rintro e w' ⟨rfl, rfl⟩)
    go_region_o
    go_wp2
    go_ret3
    exact ⟨rfl, Below.drew (Below.refl _ _)⟩
set_option maxHeartbeats 1000000 in
set_option maxRecDepth 100000 in
theorem Cut_calls (s : List UInt8) (hs : s.length ≤ 281474976710656) (w : World) :
    Calls Tryz.prog 81 #[str s, .string ⟨#[32]⟩] w fun e w' => e = .returned (.tuple #[str (cutB s).1, str (cutB s).2.1, .bool (cutB s).2.2]) ∧ Below w.heap.size w w' := by
  have HI := Aside0.mk (fun W : World => liteCut_calls s hs W)
  simp only [str] at HI ⊢
  clear hs
  generalize (⟨s.toArray⟩ : ByteArray) = S at *
  generalize (⟨(cutB s).1.toArray⟩ : ByteArray) = A at *
  generalize (⟨(cutB s).2.1.toArray⟩ : ByteArray) = B at *
  generalize (cutB s).2.2 = b at *
  go_enter Tryz.func81, Tryz.ntmps81
  go_wp2_with (go_at_call 152; refine (HI.out _).mono ?_; rintro e w' ⟨rfl, hb⟩; have HB := Aside0.mk hb; clear hb)
  go_ret3
  exact ⟨rfl, HB.out⟩
/-! ### the law's own -/
theorem str_get (l : List UInt8) (k : Nat) (hk : k < (⟨l.toArray⟩ : ByteArray).size) (hk' : k < l.length) : (⟨l.toArray⟩ : ByteArray)[k] = l[k] := by
  show (l.toArray)[k] = _
  simp
theorem ne32 (b : UInt8) (h : b ≠ 32) : ((b.toNat : Int) == 32) = false := by
  have : b.toNat ≠ 32 := fun e => h (by rw [← UInt8.toNat_inj]; exact e)
  simpa using (show ((b.toNat : Nat) : Int) ≠ 32 by omega)
set_option maxHeartbeats 1000000 in
set_option maxRecDepth 100000 in
theorem lawCut_calls (s : List UInt8) (hs : s.length ≤ 281474976710656) (w : World) :
    Calls Tryz.prog 41 #[str s] w fun e w' => e = .returned (.tuple #[str (cutB s).1, str (cutB s).2.1, .bool (cutB s).2.2]) ∧ Below w.heap.size w w' := by
  rcases cut_cases s with ⟨h1, h2⟩ | ⟨a, r, rfl, h2, h3⟩
  · have hz : (⟨s.toArray⟩ : ByteArray).size = s.length := str_size s
    have HA := Aside0.mk (fun (k : Nat) (hk : k < (⟨s.toArray⟩ : ByteArray).size) => (show (((⟨s.toArray⟩ : ByteArray)[k].toNat : Int) == 32) = false from by
      rw [str_get s k hk (by omega)]; exact ne32 _ (h2 _ (List.getElem_mem _))))
    rw [h1]
    clear h1 h2
    simp only [str]
    generalize (⟨s.toArray⟩ : ByteArray) = S at *
    go_enter Tryz.func41, Tryz.ntmps41
    go_wp2
    go_loop [5] (fun i => ∃ k : Nat, k ≤ S.size ∧ i = .int .i64 k) (fun i => S.size - (intOf i).toNat)
    case atStart => exact ⟨0, Nat.zero_le _, rfl⟩
    case round =>
      obtain ⟨k, hk, rfl⟩ := hrel
      by_cases hlt : k < S.size
      · have hq := HA.out k hlt
        have hlt' : (k : Int) < (S.size : Int) := by omega
        go_wp2
        exact ⟨⟨k + 1, by omega, by simp⟩, by simp [intOf]; omega⟩
      · obtain rfl : k = S.size := by omega
        go_wp2
        go_ret3
        exact ⟨rfl, Below.refl _ _⟩
  · have hz : (⟨(a ++ 32 :: r).toArray⟩ : ByteArray).size = (a ++ 32 :: r).length := str_size _
    have hl : (a ++ 32 :: r).length = a.length + r.length + 1 := by simp; omega
    have HA := Aside0.mk (fun (k : Nat) (hk : k < (⟨(a ++ 32 :: r).toArray⟩ : ByteArray).size) (hka : k < a.length) => (show (((⟨(a ++ 32 :: r).toArray⟩ : ByteArray)[k].toNat : Int) == 32) = false from by
      rw [str_get _ k hk (by omega), List.getElem_append_left hka]; exact ne32 _ (h2 _ (List.getElem_mem _))))
    have HE := Aside0.mk (fun (hk : a.length < (⟨(a ++ 32 :: r).toArray⟩ : ByteArray).size) => (show (((⟨(a ++ 32 :: r).toArray⟩ : ByteArray)[a.length].toNat : Int) == 32) = true from by
      rw [str_get _ _ hk (by omega), List.getElem_append_right (Nat.le_refl _)]; simp))
    rw [h3]
    clear h3 h2
    simp only [str]
    rw [← str_take a r, ← str_drop a r, ← hz]
    rw [hl] at hz hs
    have hz2 : (⟨(a ++ 32 :: r).toArray⟩ : ByteArray).size < 4294967296000000 := by omega
    clear hl hs
    generalize (⟨(a ++ 32 :: r).toArray⟩ : ByteArray) = S at *
    generalize a.length = n at *
    generalize r.length = m at *
    have c1 : (0 : Int) ≤ ↑n := by omega
    have c2 : (↑n : Int) ≤ ↑S.size := by omega
    have c3 : (0 : Int) ≤ ↑n + 1 := by omega
    have c4 : (↑n + 1 : Int) ≤ ↑S.size := by omega
    have c5 : n < S.size := by omega
    clear hz
    have mixed : Tryz.prog.follows .mixedOrders = true := by kernel_rfl
    go_enter Tryz.func41, Tryz.ntmps41
    go_wp2
    go_loop [5] (fun i => ∃ k : Nat, k ≤ n ∧ i = .int .i64 k) (fun i => n - (intOf i).toNat)
    case atStart => exact ⟨0, Nat.zero_le _, rfl⟩
    case round =>
      obtain ⟨k, hk, rfl⟩ := hrel
      by_cases hlt : k < n
      · have hkS : k < S.size := by omega
        have hq := HA.out k hkS hlt
        have hlt' : (k : Int) < (S.size : Int) := by omega
        go_wp2
        exact ⟨⟨k + 1, by omega, by simp⟩, by simp [intOf]; omega⟩
      · obtain rfl : k = n := by omega
        have hq := HE.out c5
        have hlt' : (k : Int) < (S.size : Int) := by omega
        go_wp2
        go_region_o
        go_wp2
        go_ret3
        exact ⟨rfl, Below.drew (Below.refl _ _)⟩
end Go.Proofs.YtefleapekgbpcaaGreatDoor.Shl
