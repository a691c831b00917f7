/- folkmootlaw21.awake answers true: its run, with what strings and numbers answer. -/
import Derived.Test.YtefleapekgbpcaaGreatDoorHAexd
import Derived.Test.YtefleapekgbpcaaGreatDoorAexS4
import Derived.Test.YtefleapekgbpcaaGreatDoorHShC
namespace Go.Proofs.YtefleapekgbpcaaGreatDoor.Aexd
open Go Go.Aex Go.RowKit Go.Proofs.YtefleapekgbpcaaGreatDoor.Shl
set_option maxRecDepth 1000000
def la : List UInt8 := [98, 99, 97, 115, 116, 32, 48, 32, 104, 105]
def lb : List UInt8 := [116, 105, 99, 107, 32, 48]
def lc : List UInt8 := [103, 111, 116, 32, 48]
def lT : List UInt8 := [98, 99, 97, 115, 116, 32, 48, 32, 104, 105, 10, 116, 105, 99, 107, 32, 48, 10, 103, 111, 116, 32, 48]
def lU : List UInt8 := [116, 105, 99, 107, 32, 48, 10, 103, 111, 116, 32, 48]
def cut21 : List (List AV × AV) := [([.str la, .str [32]], .tuple [.str [98, 99, 97, 115, 116], .str [48, 32, 104, 105], .bool true]), ([.str lb, .str [32]], .tuple [.str [116, 105, 99, 107], .str [48], .bool true]), ([.str lc, .str [32]], .tuple [.str [103, 111, 116], .str [48], .bool true])]
def num21 : List (List AV × AV) := [([.str [48]], .tuple [.int .i64 (.ofNat 0), .bool true])]
def count21 : List (List AV × AV) := [([.str lT, .str [10]], .int .i64 (.ofNat 2))]
def index21 : List (List AV × AV) := [([.str lT, .str [10]], .int .i64 (.ofNat 10)), ([.str lU, .str [10]], .int .i64 (.ofNat 6))]
def itoa21 : List (List AV × AV) := [([.int .i64 (.ofNat 0)], .str [48])]
def parse21 : List (List AV × AV) := [([.str lb], .tuple [.agg [.int .u8 (.ofNat 1), .int .i64 (.ofNat 0), .int .i64 (.ofNat 0), .nilslice], .int .i64 (.ofNat 0)])]
def parse21b : List AV → M AV := byteM [.str la] [104, 105] (fun s => .tuple [.agg [.int .u8 (.ofNat 0), .int .i64 (.ofNat 0), .int .i64 (.ofNat 0), s], .int .i64 (.ofNat 0)]) (litM parse21)
noncomputable def E21 : Env := envS nTy nFn tyT fnT fun g => match Nat.beq g 81 with
  | true => some (litM cut21)
  | false => match Nat.beq g 82 with
    | true => some (litM num21)
    | false => match Nat.beq g 278 with
      | true => some (litM count21)
      | false => match Nat.beq g 219 with
        | true => some (litM index21)
        | false => match Nat.beq g 85 with
          | true => some (litM itoa21)
          | false => match Nat.beq g 38 with
            | true => some parse21b
            | false => E0.sum g
theorem tab21 : Tab E21 Tryz.prog := tab_ofS tys fns (by kernel_rfl)
section
variable {w0 : World}
theorem cut_ok (hT : Tabs w0) : SumOk Tryz.prog w0.heap.size w0 81 (litM cut21) := by
  refine litM_ok Tryz.func81 (by kernel_rfl) (by kernel_rfl) fun x hx => ?_
  unfold cut21 at hx
  rcases List.mem_cons.1 hx with rfl | hx
  · exact ⟨_, _, fun ρ => rfl, fun ρ => rfl, fun w _ => Cut_calls la (by decide) w⟩
  rcases List.mem_cons.1 hx with rfl | hx
  · exact ⟨_, _, fun ρ => rfl, fun ρ => rfl, fun w _ => Cut_calls lb (by decide) w⟩
  rcases List.mem_cons.1 hx with rfl | hx
  · exact ⟨_, _, fun ρ => rfl, fun ρ => rfl, fun w _ => Cut_calls lc (by decide) w⟩
  cases hx
theorem num_ok (hT : Tabs w0) : SumOk Tryz.prog w0.heap.size w0 82 (litM num21) := by
  refine litM_ok Tryz.func82 (by kernel_rfl) (by kernel_rfl) fun x hx => ?_
  unfold num21 at hx
  rcases List.mem_cons.1 hx with rfl | hx
  · exact ⟨_, _, fun ρ => rfl, fun ρ => rfl, fun w hb => (number_calls [48] (by decide) w (hT.below hb)).mono fun e w' ⟨v, h1, h2, h3⟩ => by
      have hv := h2 0 (by decide)
      subst hv
      exact ⟨h1, h3⟩⟩
  cases hx
theorem count_ok : SumOk Tryz.prog w0.heap.size w0 278 (litM count21) := by
  refine litM_ok Tryz.func278 (by kernel_rfl) (by kernel_rfl) fun x hx => ?_
  unfold count21 at hx
  rcases List.mem_cons.1 hx with rfl | hx
  · exact ⟨_, _, fun ρ => rfl, fun ρ => rfl, fun w hb => (Tryz.strings_Count_one ⟨lT.toArray⟩ 10 w).mono fun e w' ⟨h1, h2⟩ => by
      subst h2
      refine ⟨h1.trans ?_, Below.refl _ _⟩
      rw [show Lib.countByte (⟨lT.toArray⟩ : ByteArray).data.toList 10 = 2 from by decide]
      rfl⟩
  cases hx
theorem index_ok : SumOk Tryz.prog w0.heap.size w0 219 (litM index21) := by
  refine litM_ok Tryz.func219 (by kernel_rfl) (by kernel_rfl) fun x hx => ?_
  unfold index21 at hx
  rcases List.mem_cons.1 hx with rfl | hx
  · exact ⟨_, _, fun ρ => rfl, fun ρ => rfl, fun w hb => (Tryz.stringslite_Index_one ⟨lT.toArray⟩ 10 w).mono fun e w' ⟨h1, h2⟩ => by
      subst h2
      refine ⟨h1.trans ?_, Below.refl _ _⟩
      rw [show Lib.indexByte (⟨lT.toArray⟩ : ByteArray).data.toList 10 = 10 from by decide]
      rfl⟩
  rcases List.mem_cons.1 hx with rfl | hx
  · exact ⟨_, _, fun ρ => rfl, fun ρ => rfl, fun w hb => (Tryz.stringslite_Index_one ⟨lU.toArray⟩ 10 w).mono fun e w' ⟨h1, h2⟩ => by
      subst h2
      refine ⟨h1.trans ?_, Below.refl _ _⟩
      rw [show Lib.indexByte (⟨lU.toArray⟩ : ByteArray).data.toList 10 = 6 from by decide]
      rfl⟩
  cases hx
theorem itoa_ok (hT : Tabs w0) : SumOk Tryz.prog w0.heap.size w0 85 (litM itoa21) := by
  refine litM_ok Tryz.func85 (by kernel_rfl) (by kernel_rfl) fun x hx => ?_
  unfold itoa21 at hx
  rcases List.mem_cons.1 hx with rfl | hx
  · exact ⟨_, _, fun ρ => rfl, fun ρ => rfl, fun w hb => (Tryz.strconv_Itoa 0 (by decide) (by decide) w (hT.below hb).p10).mono fun e w' ⟨h1, k, os, h2⟩ => by
      subst h2
      refine ⟨h1.trans ?_, Lib.below_grow _ _ (Nat.le_refl _) _ _⟩
      rw [show Lib.itoa 0 = [48] from (Lib.itoa_nonneg 0).trans (Lib.decDigits_one (by decide))]⟩
  cases hx
theorem parse_ok (hT : Tabs w0) : SumOk Tryz.prog w0.heap.size w0 38 parse21b := by
  refine byteM_ok (F := fun S => .tuple #[.agg #[.int .u8 0, .int .i64 0, .int .i64 0, S], .int .i64 0]) Tryz.func38 (by kernel_rfl) (by kernel_rfl) ?_ (fun ρ => rfl) (fun ρ s S hS => by simp [conc, concL, hS]) fun w hb => ?_
  · refine litM_ok Tryz.func38 (by kernel_rfl) (by kernel_rfl) fun x hx => ?_
    unfold parse21 at hx
    rcases List.mem_cons.1 hx with rfl | hx
    · exact ⟨_, _, fun ρ => rfl, fun ρ => rfl, fun w hb => (Parse_calls lb (by decide) w (hT.below hb)).mono fun e w' ⟨h1, h2⟩ => by
        rw [if_neg (by decide), show parseP lb = some (1, 0, 0, []) from by decide] at h2
        obtain ⟨M, h3, h4⟩ := h2
        rw [if_neg (by decide)] at h4
        subst h4
        exact ⟨h3, h1⟩⟩
    cases hx
  · refine (Parse_calls la (by decide) w (hT.below hb)).mono fun e w' ⟨h1, h2⟩ => ⟨h1, ?_⟩
    rw [if_neg (by decide), show parseP la = some (0, 0, 0, [104, 105]) from by decide] at h2
    obtain ⟨M, h3, h4⟩ := h2
    rw [if_pos rfl] at h4
    obtain ⟨b, c, cs, t, fr, rfl, k1, k2, k3, k4, k5, k6⟩ := h4
    exact ⟨b, c, cs, t, fr, h3, k1, k2, k3, k4, k5, k6⟩
theorem sums21 (hD : TabAt 2 Lib.deBruijn32tab w0) (hs : 2 < w0.heap.size) (hT : Tabs w0) : ∀ g m, E21.sum g = some m → SumOk Tryz.prog w0.heap.size w0 g m := by
  intro g m h
  simp only [E21, envS] at h
  cases e1 : Nat.beq g 81 with
  | true => rw [e1] at h; cases h; obtain rfl := beq_true e1; exact cut_ok hT
  | false =>
  rw [e1] at h
  cases e2 : Nat.beq g 82 with
  | true => rw [e2] at h; cases h; obtain rfl := beq_true e2; exact num_ok hT
  | false =>
  rw [e2] at h
  cases e3 : Nat.beq g 278 with
  | true => rw [e3] at h; cases h; obtain rfl := beq_true e3; exact count_ok
  | false =>
  rw [e3] at h
  cases e4 : Nat.beq g 219 with
  | true => rw [e4] at h; cases h; obtain rfl := beq_true e4; exact index_ok
  | false =>
  rw [e4] at h
  cases e5 : Nat.beq g 85 with
  | true => rw [e5] at h; cases h; obtain rfl := beq_true e5; exact itoa_ok hT
  | false =>
  rw [e5] at h
  cases e6 : Nat.beq g 38 with
  | true => rw [e6] at h; cases h; obtain rfl := beq_true e6; exact parse_ok hT
  | false =>
  rw [e6] at h
  exact sums hD hs g m h
end
theorem awake21 : saysTrue (q_callA E21 1000000 false 37 [] ⟨.nil, 0, Ks.emp, Ks.emp⟩) = true := by kernel_rfl
theorem awake21_calls {w : World} (hD : TabAt 2 Lib.deBruijn32tab w) (hs : 2 < w.heap.size) (hT : Tabs w) :
    Calls Tryz.prog 37 #[] w (fun e w' => e = .returned (.bool true) ∧ Below w.heap.size w w') := by
  have h := awake21
  rw [q_callA_eq] at h
  exact closed_args tab21 (args := []) (ARGS := []) h rfl w (sums21 hD hs hT)
end Go.Proofs.YtefleapekgbpcaaGreatDoor.Aexd
