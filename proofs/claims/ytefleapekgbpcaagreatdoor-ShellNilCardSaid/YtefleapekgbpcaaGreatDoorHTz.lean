/- math/bits.TrailingZeros16: the walk; its table stands in its variable. -/
import Derived.Test.YtefleapekgbpcaaGreatDoorProg
import Derived.Shelf.Spec.TrailingZeros
import Derived.WalkKit
namespace Go.Proofs.YtefleapekgbpcaaGreatDoor.Tz
open Go.RowKit Go.Shelf
set_option linter.unusedVariables false
set_option linter.unusedSimpArgs false
set_option maxHeartbeats 1000000 in
theorem core (x k idx : Nat) (w : World) (hx0 : ((x : Int) == 0) = false)
    (key : bits BinOp.and IntKind.u16 (x : Int) (IntKind.u16.wrap (-(x : Int))) % 4294967296 * 125613361 % 4294967296 / 134217728 = (idx : Int))
    (hi : idx < 32) (hk : k < 32) (hcell : w.cell? ⟨2, idx, none⟩ = some (.int .u8 k)) :
    Calls Tryz.prog 173 #[.int .u16 x] w fun e w' => e = .returned (.int .i64 k) ∧ w' = w := by
  go_enter Tryz.func173, Tryz.ntmps173
  go_wp2_with (simp only [key])
  go_ret
  exact ⟨rfl, rfl⟩
theorem zero (w : World) : Calls Tryz.prog 173 #[.int .u16 0] w fun e w' => e = .returned (.int .i64 16) ∧ w' = w := by
  go_enter Tryz.func173, Tryz.ntmps173
  go_wp2
  go_ret
  exact ⟨rfl, rfl⟩
theorem wrap_u16' (n : Int) : IntKind.u16.wrap n = n % 65536 := by simp [IntKind.wrap, IntKind.signed, IntKind.bits]
theorem bits_and_u16_nat (a b : Nat) (ha : a < 65536) (hb : b < 65536) : bits .and .u16 (a : Int) (b : Int) = ((a &&& b : Nat) : Int) := by
  have hx : a &&& b < 2 ^ 16 := Nat.and_lt_two_pow _ (by omega)
  have h1 : (BitVec.ofInt 16 (a : Int)).toNat = a := by
    rw [BitVec.ofInt_natCast, BitVec.toNat_ofNat]; exact Nat.mod_eq_of_lt (by omega)
  have h2 : (BitVec.ofInt 16 (b : Int)).toNat = b := by
    rw [BitVec.ofInt_natCast, BitVec.toNat_ofNat]; exact Nat.mod_eq_of_lt (by omega)
  show IntKind.u16.wrap ((BitVec.ofInt 16 (a : Int) &&& BitVec.ofInt 16 (b : Int)).toNat : Int) = _
  rw [BitVec.toNat_and, h1, h2, wrap_u16']
  omega
theorem key (x a : Nat) (hx : x < 65536) (hx0 : x ≠ 0) (hlow : x &&& (65536 - x) = a) :
    bits BinOp.and IntKind.u16 (x : Int) (IntKind.u16.wrap (-(x : Int))) % 4294967296 * 125613361 % 4294967296 / 134217728 = ((a * 125613361 % 4294967296 / 134217728 : Nat) : Int) := by
  have e1 : IntKind.u16.wrap (-(x : Int)) = ((65536 - x : Nat) : Int) := by rw [wrap_u16']; omega
  have ha : a < 65536 := by rw [← hlow]; exact Nat.and_lt_two_pow (n := 16) _ (by omega)
  rw [e1, bits_and_u16_nat x _ hx (by omega), hlow]
  omega
/-- The lowest bit that is set. -/
theorem calls (x : Nat) (hx : x < 65536) (w : World) (hT : TabAt 2 Lib.deBruijn32tab w) :
    Calls Tryz.prog 173 #[.int .u16 x] w fun e w' => e = .returned (.int .i64 (if x = 0 then 16 else Nat.log2 (x &&& (65536 - x)) : Nat)) ∧ w' = w := by
  by_cases hx0 : x = 0
  · subst hx0
    exact zero w
  · obtain ⟨hlow, hk⟩ := Lib.lowest_bit 16 x hx0 hx
    obtain ⟨hi, htab⟩ := Lib.deBruijn32_at _ (show Lib.ctz 16 x < 32 by omega)
    have hcell := hT _ hi
    rw [htab] at hcell
    have hlog : Nat.log2 (x &&& (65536 - x)) = Lib.ctz 16 x := by
      rw [show (65536 : Nat) = 2 ^ 16 from rfl, hlow]
      exact Nat.log2_two_pow
    rw [if_neg hx0, hlog]
    exact core x _ _ w (by simp; omega) (key x _ hx hx0 hlow) hi (by omega) hcell
end Go.Proofs.YtefleapekgbpcaaGreatDoor.Tz
