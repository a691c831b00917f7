/- code.Sum: the walk. -/
import Derived.Test.YtefleapekgbpcaaGreatDoorProg
import Derived.WalkKit
namespace Go.Proofs.YtefleapekgbpcaaGreatDoor.Sm
open Go.RowKit
set_option linter.unusedVariables false
set_option linter.unusedSimpArgs false
structure Aside0 (p : Prop) : Prop where mk :: (out : p)
/-- One bit of the sum. -/
def bit1 (c : Nat) : Nat := Nat.xor (Nat.shiftRight c 1) (Nat.mul 3988292384 (Nat.land c 1))
def bits1 : Nat → Nat → Nat
  | 0, c => c
  | n + 1, c => bits1 n (bit1 c)
/-- The sum of bytes behind others. -/
def crcF : Nat → List Nat → Nat
  | c, [] => c
  | c, b :: l => crcF (bits1 8 (Nat.xor c b)) l
def crc (l : List Nat) : Nat := Nat.xor 4294967295 (crcF 4294967295 l)
theorem wrap_u32' (n : Int) : IntKind.u32.wrap n = n % 4294967296 := by simp [IntKind.wrap, IntKind.signed, IntKind.bits]
theorem ofInt32 (a : Nat) (ha : a < 4294967296) : (BitVec.ofInt 32 (a : Int)).toNat = a := by
  rw [BitVec.ofInt_natCast, BitVec.toNat_ofNat]; exact Nat.mod_eq_of_lt (by omega)
theorem and_u32 (a b : Nat) (ha : a < 4294967296) (hb : b < 4294967296) : bits .and .u32 (a : Int) (b : Int) = ((a &&& b : Nat) : Int) := by
  have hx : a &&& b < 2 ^ 32 := Nat.and_lt_two_pow _ (by omega)
  show IntKind.u32.wrap ((BitVec.ofInt 32 (a : Int) &&& BitVec.ofInt 32 (b : Int)).toNat : Int) = _
  rw [BitVec.toNat_and, ofInt32 a ha, ofInt32 b hb, wrap_u32']
  omega
theorem xor_u32 (a b : Nat) (ha : a < 4294967296) (hb : b < 4294967296) : bits .xor .u32 (a : Int) (b : Int) = ((a ^^^ b : Nat) : Int) := by
  have hx : a ^^^ b < 2 ^ 32 := Nat.xor_lt_two_pow (by omega) (by omega)
  show IntKind.u32.wrap ((BitVec.ofInt 32 (a : Int) ^^^ BitVec.ofInt 32 (b : Int)).toNat : Int) = _
  rw [BitVec.toNat_xor, ofInt32 a ha, ofInt32 b hb, wrap_u32']
  omega
theorem bit1_lt {c : Nat} (hc : c < 4294967296) : bit1 c < 4294967296 := by
  unfold bit1
  show (c >>> 1) ^^^ (3988292384 * (c &&& 1)) < 2 ^ 32
  refine Nat.xor_lt_two_pow ?_ ?_
  · rw [Nat.shiftRight_eq_div_pow]; omega
  · have : c &&& 1 ≤ 1 := Nat.and_le_right
    omega
theorem bits1_lt : ∀ (n : Nat) {c : Nat}, c < 4294967296 → bits1 n c < 4294967296
  | 0, _, h => h
  | n + 1, _, h => bits1_lt n (bit1_lt h)
theorem bits1_succ : ∀ (n c : Nat), bits1 (n + 1) c = bit1 (bits1 n c)
  | 0, c => rfl
  | n + 1, c => bits1_succ n (bit1 c)
theorem crcF_lt : ∀ (l : List Nat) {c : Nat}, c < 4294967296 → (∀ b ∈ l, b < 256) → crcF c l < 4294967296
  | [], _, h, _ => h
  | b :: l, c, h, hb => by
    have h1 := hb b (List.mem_cons_self ..)
    refine crcF_lt l (bits1_lt 8 ?_) (fun x hx => hb x (List.mem_cons_of_mem _ hx))
    exact Nat.xor_lt_two_pow (n := 32) (by omega) (by omega)
theorem crcF_snoc : ∀ (l : List Nat) (c b : Nat), crcF c (l ++ [b]) = bits1 8 (Nat.xor (crcF c l) b)
  | [], c, b => rfl
  | x :: l, c, b => crcF_snoc l _ b
theorem step (c : Nat) (hc : c < 4294967296) : bits .xor .u32 ((c : Int) / 2) (bits .and .u32 3988292384 (-(bits .and .u32 (c : Int) 1) % 4294967296)) = (bit1 c : Int) := by
  have e1 : bits .and .u32 (c : Int) 1 = ((c &&& 1 : Nat) : Int) := and_u32 c 1 hc (by omega)
  have hle : c &&& 1 ≤ 1 := Nat.and_le_right
  have e2 : (c : Int) / (2 : Int) = ((c >>> 1 : Nat) : Int) := by rw [Nat.shiftRight_eq_div_pow]; omega
  have hs : c >>> 1 < 4294967296 := by rw [Nat.shiftRight_eq_div_pow]; omega
  rw [e1, e2]
  rcases (show c &&& 1 = 0 ∨ c &&& 1 = 1 by omega) with h | h
  · rw [h]
    have : bits .and .u32 3988292384 (-((0 : Nat) : Int) % 4294967296) = ((0 : Nat) : Int) := and_u32 3988292384 0 (by omega) (by omega)
    rw [this, xor_u32 _ _ hs (by omega)]
    unfold bit1
    show _ = (((c >>> 1) ^^^ (3988292384 * (c &&& 1)) : Nat) : Int)
    rw [h]
  · rw [h]
    have : bits .and .u32 3988292384 (-((1 : Nat) : Int) % 4294967296) = ((3988292384 : Nat) : Int) := and_u32 3988292384 4294967295 (by omega) (by omega)
    rw [this, xor_u32 _ _ hs (by omega)]
    unfold bit1
    show _ = (((c >>> 1) ^^^ (3988292384 * (c &&& 1)) : Nat) : Int)
    rw [h]
set_option maxHeartbeats 4000000 in
set_option maxRecDepth 100000 in
/-- The sum of what a slice holds. -/
theorem calls (blk off cap : Nat) (l : List Nat) (hl : l.length < 4611686018427387904) (hb : ∀ b ∈ l, b < 256) (w : World) (h : ∀ j (hj : j < l.length), w.cell? ⟨blk, off + j, none⟩ = some (.int .u8 l[j])) :
    Calls Tryz.prog 188 #[.slice (some ⟨blk, off, none⟩) l.length cap] w fun e w' => e = .returned (.int .u32 (crc l)) ∧ w' = w := by
  have HC := Aside0.mk h
  have HB := Aside0.mk hb
  clear h hb
  go_enter Tryz.func188, Tryz.ntmps188
  go_wp2
  go_loop [3, 8] (fun c i => ∃ k : Nat, k ≤ l.length ∧ i = .int .i64 k ∧ c = .int .u32 (crcF 4294967295 (l.take k) : Nat)) (fun _ i => l.length - (intOf i).toNat)
  case atStart => exact ⟨0, Nat.zero_le _, rfl, rfl⟩
  case round =>
    obtain ⟨k, hk, rfl, rfl⟩ := hrel
    by_cases hlt : k < l.length
    · have hcell := HC.out k hlt
      have hlt' : (k : Int) < (l.length : Int) := by omega
      have hb := HB.out l[k] (List.getElem_mem hlt)
      have hc : crcF 4294967295 (l.take k) < 4294967296 := crcF_lt _ (by omega) fun b hb => HB.out b (List.mem_of_mem_take hb)
      have HN := Aside0.mk (show crcF 4294967295 (l.take (k + 1)) = bits1 8 (Nat.xor (crcF 4294967295 (l.take k)) l[k]) by rw [List.take_succ_eq_append_getElem hlt, crcF_snoc])
      generalize crcF 4294967295 (l.take k) = c at hc HN ⊢
      generalize l[k] = b at hb hcell HN
      have hb2 : (b : Int) % 4294967296 = (b : Int) := by omega
      have hx := xor_u32 c b hc (by omega)
      have hxl : c ^^^ b < 4294967296 := Nat.xor_lt_two_pow (n := 32) (by omega) (by omega)
      go_wp2_with (simp only [hb2, hx])
      generalize hd : c ^^^ b = d at hx hxl
      go_loop [3, 16] (fun c i => ∃ j : Nat, j ≤ 8 ∧ i = .int .i64 j ∧ c = .int .u32 (bits1 j d : Nat)) (fun _ i => 8 - (intOf i).toNat)
      case atStart => exact ⟨0, Nat.zero_le _, rfl, rfl⟩
      case round =>
        obtain ⟨j, hj, rfl, rfl⟩ := hrel
        by_cases hj8 : j < 8
        · have hj' : (j : Int) < 8 := by omega
          have hs := step (bits1 j d) (bits1_lt j hxl)
          go_wp2_with (simp only [hs])
          exact ⟨⟨j + 1, by omega, by simp, by rw [bits1_succ]⟩, by simp [intOf]; omega⟩
        · obtain rfl : j = 8 := by omega
          go_wp2
          have hn := HN.out
          rw [show Nat.xor c b = d from hd] at hn
          exact ⟨⟨k + 1, by omega, by simp, by rw [hn]⟩, by simp [intOf]; omega⟩
    · obtain rfl : k = l.length := by omega
      go_wp2
      go_ret
      have hc : crcF 4294967295 l < 4294967296 := crcF_lt _ (by omega) HB.out
      have hx := xor_u32 4294967295 (crcF 4294967295 l) (by omega) hc
      refine ⟨?_, rfl⟩
      show Ending.returned (Value.int .u32 (bits BinOp.xor IntKind.u32 IntKind.u32.max (crcF 4294967295 l : Nat))) = _
      rw [show IntKind.u32.max = ((4294967295 : Nat) : Int) from rfl, hx]
      rfl
end Go.Proofs.YtefleapekgbpcaaGreatDoor.Sm
