/- Parts: HRefI, HAwake15, HLawReads, HJoined, RContentReads. -/
import Derived.Test.YtioooiflpabngaaContentReadsE
import Derived.Test.YtioooiflpabngaaContentReadsD
import Derived.Shelf.RegionOpenPlain
import Derived.Test.YtioooiflpabngaaContentReadsB
import Derived.Lib.SlBytesConst
import Derived.WalkSpells
import Derived.Test.YtioooiflpabngaaRows
import Derived.ProofKit
import Derived.WalkKit
import Derived.OpenShut
import Derived.ShutString
import Derived.ChangeOld
import Derived.Below
import Derived.SizedLaws
set_option linter.unusedVariables false
set_option linter.unusedSimpArgs false
section
namespace Go.Proofs.Ytioooiflpabngaa.PAll
open Go.RowKit Go.Proofs.YtioooiflpabngaaW.PrintWords Go.Proofs.YtioooiflpabngaaW.PrintLast Go.Proofs.YtioooiflpabngaaW.PrintMore
set_option linter.unusedVariables false
set_option linter.unusedSimpArgs false
def RefPost (w : World) (r : Int × S32 × S53) (e : Ending) (w' : World) : Prop :=
  ∃ v5 v6 v7 : Value, e = .returned (.tuple #[.int .u8 r.1, .agg #[.int .u64 r.2.1.f0.f0.f0, .int .i64 r.2.1.f0.f0.f1, .int .u64 r.2.1.f0.f1, .int .i64 r.2.1.f0.f2, v5], .agg #[v6, v7, .int .i64 r.2.2.f2, .int .u64 r.2.2.f3.f0, .int .i64 r.2.2.f3.f1]])
    ∧ Kd.V (Kd.int .u8) 5 w' w.heap.size (fun _ => True) v5 r.2.1.f1 ∧ Kd.V k32 32 w' w.heap.size (fun _ => True) v6 r.2.2.f0 ∧ Kd.V k27 27 w' w.heap.size (fun _ => True) v7 r.2.2.f1 ∧ Below w.heap.size w w'
theorem fin_V {α : Type} {d : Kd α} {e : Nat} {wx : World} {base b b2 : Nat} {ok : Nat → Prop} {v : Value} {xs : List α} (h : d.V e wx base ok v xs) (hb : ∀ k, ok k → k ≠ b) (hb2 : ∀ k, ok k → k ≠ b2) (a0 a1 a2 a3 a4 s0 s1 s2 s3 s4 : Value) :
    d.V e ((((((((((wx.setCell ⟨b, 0, none⟩ a0).setCell ⟨b, 1, none⟩ a1).setCell ⟨b, 2, none⟩ a2).setCell ⟨b, 3, none⟩ a3).setCell ⟨b, 4, none⟩ a4).setCell ⟨b2, 0, none⟩ s0).setCell ⟨b2, 1, none⟩ s1).setCell ⟨b2, 2, none⟩ s2).setCell ⟨b2, 3, none⟩ s3).setCell ⟨b2, 4, none⟩ s4) base (fun _ => True) v xs :=
  Kd.V_mono (Kd.V_far (Kd.V_far (Kd.V_far (Kd.V_far (Kd.V_far (Kd.V_far (Kd.V_far (Kd.V_far (Kd.V_far (Kd.V_far h hb _) hb _) hb _) hb _) hb _) hb2 _) hb2 _) hb2 _) hb2 _) hb2 _) (fun _ _ => trivial)
structure RefPre (w wx : World) : Prop where
  bel : Below w.heap.size w wx
  b0 : wx.heap[w.heap.size]? = some (.cells zE 32 (0, 0))
  b1 : wx.heap[w.heap.size + 1]? = some (.cells zS 53 (0, 0))
  b2 : wx.heap[w.heap.size + 2]? = some (.cells zE 32 (0, 0))
theorem RefPre.below {w wx w2 : World} (h : RefPre w wx) (hb : Below wx.heap.size wx w2) : RefPre w w2 :=
  ⟨h.bel.trans (hb.mono (by have := h.bel.size; omega)), blk_below h.b0 hb, blk_below h.b1 hb, blk_below h.b2 hb⟩
set_option maxHeartbeats 8000000 in
set_option maxRecDepth 100000 in
theorem refDecode.calls (k : Nat) (A0 : Option Addr) (c0 : Nat) (l0 : List Int) (r : Int × S32 × S53) (w : World) (hr0 : Kd.C (Kd.int .u8) w A0 l0.length l0) (hF0 : Kd.F (Kd.int .u8) w (fun k => k < w.heap.size) A0 l0.length l0) (hc0 : l0.length ≤ c0) (hl0 : l0.length < 2199023255552) (hb0 : Byt l0) (h : refDecode.g k l0 = some r) :
    Calls Try.prog 52 #[.slice A0 l0.length c0] w (RefPost w r) := by
  have hu32 := Try.underlying32
  have hu53 := Try.underlying53
  have H := Aside0.mk h
  have HR0 := Aside0.mk hr0
  have HF0 := Aside0.mk hF0
  have HC0 := Aside0.mk hc0
  have HL0 := Aside0.mk hl0
  have HB0 := Aside0.mk hb0
  have hmo : Try.prog.follows .mixedOrders = true := by kernel_rfl
  clear h hr0 hc0 hl0 hb0 hF0
  have HW := Aside0.mk (show Below w.heap.size w (((w.alloc (.cells #[.int .u64 0, .int .i64 0, .int .u64 0, .int .i64 0, .slice none 0 0] 32)).alloc (.cells #[.slice none 0 0, .slice none 0 0, .int .i64 0, .int .u64 0, .int .i64 0] 53)).alloc (.cells #[.int .u64 0, .int .i64 0, .int .u64 0, .int .i64 0, .slice none 0 0] 32)) ∧ (((w.alloc (.cells #[.int .u64 0, .int .i64 0, .int .u64 0, .int .i64 0, .slice none 0 0] 32)).alloc (.cells #[.slice none 0 0, .slice none 0 0, .int .i64 0, .int .u64 0, .int .i64 0] 53)).alloc (.cells #[.int .u64 0, .int .i64 0, .int .u64 0, .int .i64 0, .slice none 0 0] 32)).heap.size = w.heap.size + 3
    ∧ (((w.alloc (.cells #[.int .u64 0, .int .i64 0, .int .u64 0, .int .i64 0, .slice none 0 0] 32)).alloc (.cells #[.slice none 0 0, .slice none 0 0, .int .i64 0, .int .u64 0, .int .i64 0] 53)).alloc (.cells #[.int .u64 0, .int .i64 0, .int .u64 0, .int .i64 0, .slice none 0 0] 32)).heap[w.heap.size]? = some (.cells zE 32 (0, 0))
    ∧ (((w.alloc (.cells #[.int .u64 0, .int .i64 0, .int .u64 0, .int .i64 0, .slice none 0 0] 32)).alloc (.cells #[.slice none 0 0, .slice none 0 0, .int .i64 0, .int .u64 0, .int .i64 0] 53)).alloc (.cells #[.int .u64 0, .int .i64 0, .int .u64 0, .int .i64 0, .slice none 0 0] 32)).heap[w.heap.size + 1]? = some (.cells zS 53 (0, 0))
    ∧ (((w.alloc (.cells #[.int .u64 0, .int .i64 0, .int .u64 0, .int .i64 0, .slice none 0 0] 32)).alloc (.cells #[.slice none 0 0, .slice none 0 0, .int .i64 0, .int .u64 0, .int .i64 0] 53)).alloc (.cells #[.int .u64 0, .int .i64 0, .int .u64 0, .int .i64 0, .slice none 0 0] 32)).heap[w.heap.size + 2]? = some (.cells zE 32 (0, 0)) from by
      refine ⟨((Below.alloc (Below.refl _ _) (Nat.le_refl _) _).alloc (by simp) _).alloc (by simp; omega) _, by simp, blk_alloc (blk_alloc (blk_new w _) _) _, ?_, ?_⟩
      · have h7 := blk_new (w.alloc (.cells zE 32)) (.cells zS 53)
        rw [World.size_alloc] at h7
        exact blk_alloc h7 _
      · have h7 := blk_new ((w.alloc (.cells zE 32)).alloc (.cells zS 53)) (.cells zE 32)
        rw [World.size_alloc, World.size_alloc] at h7
        exact h7)
  cases l0 with
  | nil =>
    have h := H.out
    simp only [refDecode.g, Option.some.injEq] at h
    subst h
    clear H
    simp only [List.length_nil]
    go_enter Try.func52, Try.ntmps52
    go_upto_region 3 with fail
    generalize (((w.alloc (.cells #[.int .u64 0, .int .i64 0, .int .u64 0, .int .i64 0, .slice none 0 0] 32)).alloc (.cells #[.slice none 0 0, .slice none 0 0, .int .i64 0, .int .u64 0, .int .i64 0] 53)).alloc (.cells #[.int .u64 0, .int .i64 0, .int .u64 0, .int .i64 0, .slice none 0 0] 32)) = wx at HW ⊢
    obtain ⟨he0, he1, he2, he3, he4, hg0, hg1, hg2, hg3, hg4, hel⟩ := blk5 HW.out.2.2.1
    obtain ⟨hr0, hr1, hr2, hr3, hr4, hq0, hq1, hq2, hq3, hq4, hrl⟩ := blk5 HW.out.2.2.2.1
    obtain ⟨hn0, hn1, hn2, hn3, hn4, hm0, hm1, hm2, hm3, hm4, hnl⟩ := blk5 HW.out.2.2.2.2
    go_region
    all_goals go_wp2_with fail
    all_goals refine bodyPost_ret (results_tcc rfl _ _ w.heap.size (w.heap.size + 1) 32 53 zE zS (0, 0) (0, 0) _ _ rfl ?p1_1 rfl ?p2_1 Try.underlying32 rfl (by kernel_rfl) Try.underlying53 rfl (by kernel_rfl)) rfl ?p3_1
    all_goals try (case p1_1 => with_reducible first | exact blk_drew (fin_put (by omega) HW.out.2.2.1 HW.out.2.2.2.1 _ _ _ _ _ _ _ _ _ _).1 | exact (fin_put (by omega) HW.out.2.2.1 HW.out.2.2.2.1 _ _ _ _ _ _ _ _ _ _).1)
    all_goals try (case p2_1 => with_reducible first | exact blk_drew (fin_put (by omega) HW.out.2.2.1 HW.out.2.2.2.1 _ _ _ _ _ _ _ _ _ _).2 | exact (fin_put (by omega) HW.out.2.2.1 HW.out.2.2.2.1 _ _ _ _ _ _ _ _ _ _).2)
    all_goals refine ⟨_, _, _, rfl, Kd.V_nil _ _ _ _ _, Kd.V_nil _ _ _ _ _, Kd.V_nil _ _ _ _ _, ?_⟩
    all_goals with_reducible first | exact (fin_below HW.out.1 (Nat.le_refl _) (by omega) _ _ _ _ _ _ _ _ _ _).drew | exact (fin_below HW.out.1 (Nat.le_refl _) (by omega) _ _ _ _ _ _ _ _ _ _)
  | cons b t =>
    obtain ⟨ad, rfl, hx⟩ := Kd.at_int HR0.out 0 (Int.le_refl _) (by simp only [List.length_cons]; omega)
    have hx0 : w.cell? ad = some (.int .u8 b) := by simpa [rd, Addr.add_zero'] using hx
    have hlt := World.block_lt_of_cell? w _ hx0
    have HX := Aside0.mk hx0
    clear hx hx0
    have hz := HL0.out
    have hz2 := HC0.out
    have HLE := Aside0.mk (show (b :: t).length = t.length + 1 from rfl)
    simp only [List.length_cons] at hz hz2 ⊢
    go_enter Try.func52, Try.ntmps52
    go_upto_region 4 with fail
    generalize (((w.alloc (.cells #[.int .u64 0, .int .i64 0, .int .u64 0, .int .i64 0, .slice none 0 0] 32)).alloc (.cells #[.slice none 0 0, .slice none 0 0, .int .i64 0, .int .u64 0, .int .i64 0] 53)).alloc (.cells #[.int .u64 0, .int .i64 0, .int .u64 0, .int .i64 0, .slice none 0 0] 32)) = wx at HW ⊢
    have hsz := HW.out.2.1
    go_upto_region 5 with fail
    have HRD := Aside0.mk (show RdR (wx.alloc (.cells #[.slice (some ad) (t.length + 1) c0, .int .i64 1] 127)) (w.heap.size + 3) w.heap.size (some ad) c0 (b :: t) t false from
      ⟨1, by have h7 := blk_new wx (.cells #[.slice (some ad) (t.length + 1) c0, .int .i64 1] 127); rw [hsz] at h7; exact h7, Kd.F_alloc (Kd.F_step HF0.out (fun k hk _ => HW.out.1.block k hk)) _, HC0.out, by omega, HB0.out, HL0.out, .inr ⟨rfl, 1, rfl, by simp, rfl⟩⟩)
    have HPF := Aside0.mk (show Below w.heap.size w (wx.alloc (.cells #[.slice (some ad) (t.length + 1) c0, .int .i64 1] 127)) ∧ (wx.alloc (.cells #[.slice (some ad) (t.length + 1) c0, .int .i64 1] 127)).heap.size = w.heap.size + 4 ∧ (wx.alloc (.cells #[.slice (some ad) (t.length + 1) c0, .int .i64 1] 127)).heap[w.heap.size]? = some (.cells zE 32 (0, 0)) ∧ (wx.alloc (.cells #[.slice (some ad) (t.length + 1) c0, .int .i64 1] 127)).heap[w.heap.size + 1]? = some (.cells zS 53 (0, 0)) ∧ (wx.alloc (.cells #[.slice (some ad) (t.length + 1) c0, .int .i64 1] 127)).heap[w.heap.size + 2]? = some (.cells zE 32 (0, 0)) from
      ⟨HW.out.1.alloc (by omega) _, by simp [hsz], blk_alloc HW.out.2.2.1 _, blk_alloc HW.out.2.2.2.1 _, blk_alloc HW.out.2.2.2.2 _⟩)
    clear hsz HW
    generalize wx.alloc (.cells #[.slice (some ad) (t.length + 1) c0, .int .i64 1] 127) = wr at HRD HPF ⊢
    have hx5 := Below.cell HPF.out.1 hlt
    rw [HX.out] at hx5
    have hadr : ad.add 0 = ad := Addr.add_zero' ad
    -- the bytes as a string, in whatever world follows
    have HSTR := Aside0.mk (fun (W' : World) (hW : Below w.heap.size w W') => (show (convert 30 9 (.slice (some ad) (t.length + 1) c0)).run Try.prog W' = .ok (.string (strOfNums (b :: t))) W' from
      Kd.C_string (c := c0) Try.underlying30 Try.underlying5 Try.underlying9 (Kd.F_now (Kd.F_step HF0.out (fun k hk _ => hW.block k hk)))))
    by_cases hb1 : b = 1
    · subst hb1
      have hD := H.out
      simp only [refDecode.g, if_true] at hD
      have HC := Aside0.mk (fun W hW => refr_Entry (w.heap.size + 3) w.heap.size (some ad) c0 (1 :: t) t false W hW)
      obtain ⟨⟨⟨⟨⟨n, p⟩, q, s⟩, m⟩, t2, b2⟩, hu⟩ : ∃ u, reRd t false = u := ⟨_, rfl⟩
      rw [hu] at HC hD
      simp only at HC hD
      have HDD := Aside0.mk hD
      clear hu hD H
      go_upto_region 7 with (go_at_call 101; (with_reducible refine (HC.out _ HRD.out).mono ?_); rintro e w2 ⟨Am, cm, rfl, hm, hR, hg⟩; have HR2 := Aside0.mk hR; have HV2 := Aside0.mk hm; have HP2 := Aside0.mk (show Below w.heap.size w w2 ∧ w.heap.size + 3 < w2.heap.size ∧ w2.heap[w.heap.size]? = some (.cells zE 32 (0, 0)) ∧ w2.heap[w.heap.size + 1]? = some (.cells zS 53 (0, 0)) ∧ w2.heap[w.heap.size + 2]? = some (.cells zE 32 (0, 0)) from ⟨HPF.out.1.trans ⟨hg.os, hg.tape, hg.output, hg.size, fun k hk => hg.block k (by have := HPF.out.2.1; omega) (fun e => by simp at e; omega)⟩, hR.lt, blk_grown HPF.out.2.2.1 hg (by simp), blk_grown HPF.out.2.2.2.1 hg (by simp), blk_grown HPF.out.2.2.2.2 hg (by simp)⟩); clear hm hR hg HC)
      have HP3 := Aside0.mk (show RefPre w (w2.alloc (.cells #[.int .u64 n, .int .i64 p, .int .u64 q, .int .i64 s, .slice Am m.length cm] 32)) from RefPre.below ⟨HP2.out.1, HP2.out.2.2.1, HP2.out.2.2.2.1, HP2.out.2.2.2.2⟩ (Below.alloc (Below.refl _ _) (Nat.le_refl _) _))
      have HX3 := Aside0.mk (blk_new w2 (.cells #[.int .u64 n, .int .i64 p, .int .u64 q, .int .i64 s, .slice Am m.length cm] 32))
      have HV3 := Aside0.mk (Kd.V_alloc HV2.out (.cells #[.int .u64 n, .int .i64 p, .int .u64 q, .int .i64 s, .slice Am m.length cm] 32))
      have HR3 := Aside0.mk (HR2.out.keep (Below.alloc (Below.refl _ _) (HR2.out.lt) (.cells #[.int .u64 n, .int .i64 p, .int .u64 q, .int .i64 s, .slice Am m.length cm] 32)))
      have hlt2 := HP2.out.2.1
      clear HR2 HV2 HP2 HPF HRD hx5
      generalize hbx : w2.heap.size = bx at HX3 hlt2 ⊢
      clear hbx
      generalize w2.alloc (.cells #[.int .u64 n, .int .i64 p, .int .u64 q, .int .i64 s, .slice Am m.length cm] 32) = w3 at HX3 HP3 HV3 HR3 ⊢
      obtain ⟨hx0, hx1, hx2, hx3, hx4, hy0, hy1, hy2, hy3, hy4, hxl⟩ := blk5 HX3.out
      obtain ⟨he0, he1, he2, he3, he4, hg0, hg1, hg2, hg3, hg4, hel⟩ := blk5 HP3.out.b0
      obtain ⟨hr0, hr1, hr2, hr3, hr4, hq0, hq1, hq2, hq3, hq4, hrl⟩ := blk5 HP3.out.b1
      obtain ⟨hn0, hn1, hn2, hn3, hn4, hm0, hm1, hm2, hm3, hm4, hnl⟩ := blk5 HP3.out.b2
      go_cut [42] (fun s42 wy => ∃ B : Bool, s42 = .bool B ∧ Aside0 (RefPre w wy) ∧ Aside0 (wy.heap[bx]? = some (.cells #[.int .u64 n, .int .i64 p, .int .u64 q, .int .i64 s, .slice Am m.length cm] 32 (0, 0))) ∧ Aside0 (Kd.V (Kd.int .u8) 5 wy w.heap.size (fun k => k < w.heap.size) (.slice Am m.length cm) m) ∧ Aside0 (if B = true then r = (1, ⟨⟨⟨n, p⟩, q, s⟩, m⟩, noS) else r = (0, noE, noS)))
      case first =>
        cases b2
        · obtain ⟨n1, hbb, hnl1, -⟩ := HR3.out.isOk
          obtain ⟨hc0, hc1, hf0, hf1, hl3⟩ := blk2 hbb
          clear hbb
          by_cases ht2 : t2 = []
          · subst ht2
            simp only [List.length_nil, List.length_cons, Nat.add_zero] at hnl1
            subst hnl1
            have hD := HDD.out
            simp only [and_self, if_true] at hD
            obtain ⟨o, ho, hoo⟩ := Option.bind_eq_some_iff.1 hD
            have HOO := Aside0.mk hoo
            obtain ⟨-, hm2', hm3'⟩ := Kd.V_reads' HV3.out
            have HO := Aside0.mk (fun W (hW : Below w3.heap.size w3 W) => folkmootref15_One.calls k n p q s Am cm m o W (Kd.C_below hm3' hW) hm2' ho)
            clear hD hoo ho HDD hm2' hm3'
            have HS := Aside0.mk (fun (W' : World) (hW : Below w3.heap.size w3 W') => (show W'.cell? ⟨bx, 0, none⟩ = some (.int .u64 n) ∧ W'.cell? ⟨bx, 1, none⟩ = some (.int .i64 p) ∧ W'.cell? ⟨bx, 2, none⟩ = some (.int .u64 q) ∧ W'.cell? ⟨bx, 3, none⟩ = some (.int .i64 s) ∧ W'.cell? ⟨bx, 4, none⟩ = some (.slice Am m.length cm) ∧ W'.cell? ⟨w.heap.size + 3, 1, none⟩ = some (.int .i64 ((t.length + 1 : Nat) : Int)) ∧ (convert 30 9 (.slice (some ad) (t.length + 1) c0)).run Try.prog W' = .ok (.string (strOfNums (1 :: t))) W' from
              ⟨(Below.cell hW (p := ⟨bx, 0, none⟩) hxl).trans hx0, (Below.cell hW (p := ⟨bx, 1, none⟩) hxl).trans hx1, (Below.cell hW (p := ⟨bx, 2, none⟩) hxl).trans hx2, (Below.cell hW (p := ⟨bx, 3, none⟩) hxl).trans hx3, (Below.cell hW (p := ⟨bx, 4, none⟩) hxl).trans hx4, (Below.cell hW (p := ⟨w.heap.size + 3, 1, none⟩) hl3).trans hc1, HSTR.out _ (HP3.out.bel.trans (hW.mono (by have := HP3.out.bel.size; omega)))⟩))
            have HBIT := Aside0.mk (show (if ((strOfNums o).toList == (strOfNums (1 :: t)).toList) = true then r = (1, ⟨⟨⟨n, p⟩, q, s⟩, m⟩, noS) else r = (0, noE, noS)) from by
              have h7 := HOO.out
              by_cases he : (strOfNums o).toList = (strOfNums (1 :: t)).toList
              · rw [if_pos he] at h7
                injection h7 with h7
                rw [if_pos (by simpa using he), h7]
              · rw [if_neg he] at h7
                injection h7 with h7
                rw [if_neg (by simpa using he), h7])
            clear HOO
            refine wp_region_held_drew (S := (fun W' => W'.cell? ⟨bx, 0, none⟩ = some (.int .u64 n) ∧ W'.cell? ⟨bx, 1, none⟩ = some (.int .i64 p) ∧ W'.cell? ⟨bx, 2, none⟩ = some (.int .u64 q) ∧ W'.cell? ⟨bx, 3, none⟩ = some (.int .i64 s) ∧ W'.cell? ⟨bx, 4, none⟩ = some (.slice Am m.length cm) ∧ W'.cell? ⟨w.heap.size + 3, 1, none⟩ = some (.int .i64 ((t.length + 1 : Nat) : Int)) ∧ (convert 30 9 (.slice (some ad) (t.length + 1) c0)).run Try.prog W' = .ok (.string (strOfNums (1 :: t))) W')) (by kernel_rfl) ?w148S (fun hHeld => ?w148R)
            case w148S => ((try dsimp only); (refine HS.out _ ?_; with_reducible repeat (first | exact HBW.out | exact Below.refl _ _ | refine Below.drew ?_ | apply pw_below_drewN)))
            case' w148R =>
              first | refine tU 0 hHeld ?_ | refine tH 0 hHeld ?_ | fail
              try simp only [Act.put, List.setIfInBounds_toArray, List.set_cons_zero, List.set_cons_succ]
              first | refine tU 1 hHeld ?_ | refine tH 1 hHeld ?_ | fail
              try simp only [Act.put, List.setIfInBounds_toArray, List.set_cons_zero, List.set_cons_succ]
              first | refine tU 2 hHeld ?_ | refine tH 2 hHeld ?_ | fail
              try simp only [Act.put, List.setIfInBounds_toArray, List.set_cons_zero, List.set_cons_succ]
              first | refine tU 3 hHeld ?_ | refine tH 3 hHeld ?_ | fail
              try simp only [Act.put, List.setIfInBounds_toArray, List.set_cons_zero, List.set_cons_succ]
              first | refine tU 4 hHeld ?_ | refine tH 4 hHeld ?_ | fail
              try simp only [Act.put, List.setIfInBounds_toArray, List.set_cons_zero, List.set_cons_succ]
              first
                | refine tU 5 hHeld ?_
                | refine tH 5 hHeld ?_
                | (refine tkR 5 rfl (by kernel_rfl) (fun K hK => ?_); go_simp; (first | refine hK.out _ _ ?_ (fun hNew => ?_) | (((go_at_call 51; refine (HO.out _ (by with_reducible repeat (first | exact Below.refl _ _ | refine Below.drew ?_ | apply pw_below_drewN))).mono ?_; rintro e w4 ⟨v, rfl, ho, hb⟩; have hcv := own_string (P := Try.prog) Try.underlying30 Try.underlying5 Try.underlying9 (Kd.own_of_R ho); have HBW := Aside0.mk (show Below w3.heap.size w3 w4 from Below.trans (by with_reducible repeat (first | exact Below.refl _ _ | refine Below.drew ?_ | apply pw_below_drewN)) (hb.mono (by simp))); clear ho hb)); (first | refine hK.out _ _ ?_ (fun hNew => ?_) | (go_wp2_with fail; refine hK.out _ _ ?_ (fun hNew => ?_)) | fail)) | (go_wp2_with fail; refine hK.out _ _ ?_ (fun hNew => ?_)) | fail); (focus ((try dsimp only); (refine HS.out _ ?_; with_reducible repeat (first | exact HBW.out | exact Below.refl _ _ | refine Below.drew ?_ | apply pw_below_drewN)))); clear hK K hHeld; have hHeld := hNew; clear hNew)
                | fail
              try simp only [Act.put, List.setIfInBounds_toArray, List.set_cons_zero, List.set_cons_succ]
              first | refine tU 6 hHeld ?_ | refine tH 6 hHeld ?_ | fail
              try simp only [Act.put, List.setIfInBounds_toArray, List.set_cons_zero, List.set_cons_succ]
              first | refine tU 7 hHeld ?_ | refine tH 7 hHeld ?_ | fail
              try simp only [Act.put, List.setIfInBounds_toArray, List.set_cons_zero, List.set_cons_succ]
              first | refine tU 8 hHeld ?_ | refine tH 8 hHeld ?_ | fail
              try simp only [Act.put, List.setIfInBounds_toArray, List.set_cons_zero, List.set_cons_succ]
              first | refine tU 11 hHeld ?_ | refine tH 11 hHeld ?_ | fail
              try simp only [Act.put, List.setIfInBounds_toArray, List.set_cons_zero, List.set_cons_succ]
              first | refine tU 12 hHeld ?_ | refine tH 12 hHeld ?_ | fail
              try simp only [Act.put, List.setIfInBounds_toArray, List.set_cons_zero, List.set_cons_succ]
              first
                | refine tU 9 hHeld ?_
                | refine tH 9 hHeld ?_
                | (refine tkR 9 rfl (by kernel_rfl) (fun K hK => ?_); go_simp; (first | refine hK.out _ _ ?_ (fun hNew => ?_) | (((go_at_call 51; refine (HO.out _ (by with_reducible repeat (first | exact Below.refl _ _ | refine Below.drew ?_ | apply pw_below_drewN))).mono ?_; rintro e w4 ⟨v, rfl, ho, hb⟩; have hcv := own_string (P := Try.prog) Try.underlying30 Try.underlying5 Try.underlying9 (Kd.own_of_R ho); have HBW := Aside0.mk (show Below w3.heap.size w3 w4 from Below.trans (by with_reducible repeat (first | exact Below.refl _ _ | refine Below.drew ?_ | apply pw_below_drewN)) (hb.mono (by simp))); clear ho hb)); (first | refine hK.out _ _ ?_ (fun hNew => ?_) | (go_wp2_with fail; refine hK.out _ _ ?_ (fun hNew => ?_)) | fail)) | (go_wp2_with fail; refine hK.out _ _ ?_ (fun hNew => ?_)) | fail); (focus ((try dsimp only); (refine HS.out _ ?_; with_reducible repeat (first | exact HBW.out | exact Below.refl _ _ | refine Below.drew ?_ | apply pw_below_drewN)))); clear hK K hHeld; have hHeld := hNew; clear hNew)
                | fail
              try simp only [Act.put, List.setIfInBounds_toArray, List.set_cons_zero, List.set_cons_succ]
              first
                | refine tU 10 hHeld ?_
                | refine tH 10 hHeld ?_
                | (refine tkR 10 rfl (by kernel_rfl) (fun K hK => ?_); go_simp; (first | refine hK.out _ _ ?_ (fun hNew => ?_) | (((go_at_call 51; refine (HO.out _ (by with_reducible repeat (first | exact Below.refl _ _ | refine Below.drew ?_ | apply pw_below_drewN))).mono ?_; rintro e w4 ⟨v, rfl, ho, hb⟩; have hcv := own_string (P := Try.prog) Try.underlying30 Try.underlying5 Try.underlying9 (Kd.own_of_R ho); have HBW := Aside0.mk (show Below w3.heap.size w3 w4 from Below.trans (by with_reducible repeat (first | exact Below.refl _ _ | refine Below.drew ?_ | apply pw_below_drewN)) (hb.mono (by simp))); clear ho hb)); (first | refine hK.out _ _ ?_ (fun hNew => ?_) | (go_wp2_with fail; refine hK.out _ _ ?_ (fun hNew => ?_)) | fail)) | (go_wp2_with fail; refine hK.out _ _ ?_ (fun hNew => ?_)) | fail); (focus ((try dsimp only); (refine HS.out _ ?_; with_reducible repeat (first | exact HBW.out | exact Below.refl _ _ | refine Below.drew ?_ | apply pw_below_drewN)))); clear hK K hHeld; have hHeld := hNew; clear hNew)
                | fail
              try simp only [Act.put, List.setIfInBounds_toArray, List.set_cons_zero, List.set_cons_succ]
              first | refine tU 13 hHeld ?_ | refine tH 13 hHeld ?_ | fail
              try simp only [Act.put, List.setIfInBounds_toArray, List.set_cons_zero, List.set_cons_succ]
              first | refine tU 14 hHeld ?_ | refine tH 14 hHeld ?_ | fail
              try simp only [Act.put, List.setIfInBounds_toArray, List.set_cons_zero, List.set_cons_succ]
              refine wpAnyH_done (by kernel_rfl) ?_ _
            go_wp2_with fail
            go_meet
            exact ⟨_, rfl, ⟨HP3.out.below HBW.out⟩, ⟨blk_below HX3.out HBW.out⟩, ⟨Kd.V_below HV3.out HBW.out⟩, HBIT⟩
          · have hD := HDD.out
            rw [if_neg (by simp [ht2])] at hD
            injection hD with hD
            have hne2 : (((n1 : Int)) == (t.length : Int) + 1) = false := by
              rw [beq_eq_false_iff_ne]
              have : 0 < t2.length := by cases t2; exact absurd rfl ht2; simp
              simp only [List.length_cons] at hnl1
              omega
            clear hnl1 HDD
            go_quiet (fail)
            go_wp2_with fail
            go_meet
            exact ⟨false, rfl, ⟨HP3.out.below (pw_below_drewN (Below.refl _ _) _)⟩, ⟨blk_below HX3.out (pw_below_drewN (Below.refl _ _) _)⟩, ⟨Kd.V_below HV3.out (pw_below_drewN (Below.refl _ _) _)⟩, ⟨by simpa using hD.symm⟩⟩
        · obtain ⟨hc0, hc1, hf0, hf1, hl3⟩ := blk2 HR3.out.isBad
          have hD := HDD.out
          simp only [Bool.true_eq_false, false_and, if_false, Option.some.injEq] at hD
          have hne2 : ((-1 : Int) == (t.length : Int) + 1) = false := by
            rw [beq_eq_false_iff_ne]
            omega
          clear HDD
          go_quiet (fail)
          go_wp2_with fail
          go_meet
          exact ⟨false, rfl, ⟨HP3.out.below (pw_below_drewN (Below.refl _ _) _)⟩, ⟨blk_below HX3.out (pw_below_drewN (Below.refl _ _) _)⟩, ⟨Kd.V_below HV3.out (pw_below_drewN (Below.refl _ _) _)⟩, ⟨by simpa using hD.symm⟩⟩
      case rest =>
        clear hx0 hx1 hx2 hx3 hx4 hy0 hy1 hy2 hy3 hy4 hxl he0 he1 he2 he3 he4 hg0 hg1 hg2 hg3 hg4 hel hr0 hr1 hr2 hr3 hr4 hq0 hq1 hq2 hq3 hq4 hrl hn0 hn1 hn2 hn3 hn4 hm0 hm1 hm2 hm3 hm4 hnl HP3 HX3 HV3 HR3
        obtain ⟨B, rfl, HP4, HX4, HV4, HB⟩ := hcut
        obtain ⟨hx0, hx1, hx2, hx3, hx4, hy0, hy1, hy2, hy3, hy4, hxl⟩ := blk5 HX4.out
        obtain ⟨he0, he1, he2, he3, he4, hg0, hg1, hg2, hg3, hg4, hel⟩ := blk5 HP4.out.b0
        obtain ⟨hr0, hr1, hr2, hr3, hr4, hq0, hq1, hq2, hq3, hq4, hrl⟩ := blk5 HP4.out.b1
        obtain ⟨hn0, hn1, hn2, hn3, hn4, hm0, hm1, hm2, hm3, hm4, hnl⟩ := blk5 HP4.out.b2
        cases B
        · have hB := HB.out
          simp only [Bool.false_eq_true, if_false] at hB
          subst hB
          clear HB HDD
          go_wp2_with fail
          go_region
          all_goals go_wp2_with fail
          all_goals refine bodyPost_ret (results_tcc rfl _ _ w.heap.size (w.heap.size + 1) 32 53 zE zS (0, 0) (0, 0) _ _ rfl ?p1_2 rfl ?p2_2 Try.underlying32 rfl (by kernel_rfl) Try.underlying53 rfl (by kernel_rfl)) rfl ?p3_2
          all_goals try (case p1_2 => with_reducible first | exact blk_drew (fin_put (by omega) HP4.out.b0 HP4.out.b1 _ _ _ _ _ _ _ _ _ _).1 | exact (fin_put (by omega) HP4.out.b0 HP4.out.b1 _ _ _ _ _ _ _ _ _ _).1)
          all_goals try (case p2_2 => with_reducible first | exact blk_drew (fin_put (by omega) HP4.out.b0 HP4.out.b1 _ _ _ _ _ _ _ _ _ _).2 | exact (fin_put (by omega) HP4.out.b0 HP4.out.b1 _ _ _ _ _ _ _ _ _ _).2)
          all_goals refine ⟨_, _, _, rfl, Kd.V_nil _ _ _ _ _, Kd.V_nil _ _ _ _ _, Kd.V_nil _ _ _ _ _, ?_⟩
          all_goals try (with_reducible first | exact (fin_below HP4.out.bel (Nat.le_refl _) (by omega) _ _ _ _ _ _ _ _ _ _).drew | exact (fin_below HP4.out.bel (Nat.le_refl _) (by omega) _ _ _ _ _ _ _ _ _ _))
        · have hB := HB.out
          simp only [if_true] at hB
          subst hB
          clear HB HDD
          go_wp2_with fail
          go_region
          all_goals go_wp2_with fail
          all_goals refine bodyPost_ret (results_tcc rfl _ _ w.heap.size (w.heap.size + 1) 32 53 #[.int .u64 n, .int .i64 p, .int .u64 q, .int .i64 s, .slice Am m.length cm] zS (0, 0) (0, 0) _ _ rfl ?p1_3 rfl ?p2_3 Try.underlying32 rfl (by kernel_rfl) Try.underlying53 rfl (by kernel_rfl)) rfl ?p3_3
          all_goals try (case p1_3 => with_reducible first | exact blk_drew (fin_put (by omega) HP4.out.b0 HP4.out.b1 _ _ _ _ _ _ _ _ _ _).1 | exact (fin_put (by omega) HP4.out.b0 HP4.out.b1 _ _ _ _ _ _ _ _ _ _).1)
          all_goals try (case p2_3 => with_reducible first | exact blk_drew (fin_put (by omega) HP4.out.b0 HP4.out.b1 _ _ _ _ _ _ _ _ _ _).2 | exact (fin_put (by omega) HP4.out.b0 HP4.out.b1 _ _ _ _ _ _ _ _ _ _).2)
          all_goals refine ⟨_, _, _, rfl, ?_, Kd.V_nil _ _ _ _ _, Kd.V_nil _ _ _ _ _, ?_⟩
          all_goals try (with_reducible first | exact (fin_below HP4.out.bel (Nat.le_refl _) (by omega) _ _ _ _ _ _ _ _ _ _).drew | exact (fin_below HP4.out.bel (Nat.le_refl _) (by omega) _ _ _ _ _ _ _ _ _ _))
          all_goals with_reducible first | exact Kd.V_drew (fin_V HV4.out (fun k hk => by omega) (fun k hk => by omega) _ _ _ _ _ _ _ _ _ _) | exact fin_V HV4.out (fun k hk => by omega) (fun k hk => by omega) _ _ _ _ _ _ _ _ _ _
    · have hbq : (b == 1) = false := by simpa using hb1
      have hsz := HPF.out.2.1
      have HM := Aside0.mk (show SumR w (wr.alloc (.cells #[.slice none 0 0, .slice none 0 0, .int .i64 0, .int .u64 0, .int .i64 0] 53)) (some ad) c0 (b :: t) (.slice none 0 0) (.slice none 0 0) [] [] 0 0 0 t false from
        ⟨HRD.out.keep (Below.alloc (Below.refl _ _) (by omega) _), blk_alloc HPF.out.2.2.1 _, blk_alloc HPF.out.2.2.2.1 _, blk_alloc HPF.out.2.2.2.2 _, by have h7 := blk_new wr (.cells zS 53); rw [hsz] at h7; exact h7, Kd.N_nil _ _ _ _ _, Kd.R_nil _ _ _ _ _, HPF.out.1.alloc (by omega) _⟩)
      have hlt5 : ad.block < wr.heap.size := by omega
      clear HPF HRD
      go_upto_region 11 with fail
      clear hsz
      go_upto_region 11 with fail
      by_cases hb2 : b = 2
      · subst hb2
        have hD := H.out
        simp only [refDecode.g, if_neg hb1, if_true] at hD
        have hNlt : (t.length : Int) + 1 < 4398046511104 := by omega
        have hN0 : (0 : Int) ≤ (t.length : Int) + 1 := by omega
        have HNE := Aside0.mk (show ((t.length : Int) + 1) = (t.length : Int) + 1 from rfl)
        obtain ⟨⟨n1, t1, q1⟩, e1⟩ : ∃ x, iRd t false ((t.length : Int) + 1) = x := ⟨_, rfl⟩
        have g1 := iRd_range t false _ hN0 hNlt
        rw [e1] at g1
        simp only at g1
        obtain ⟨n, rfl⟩ : ∃ n : Nat, n1 = (n : Int) := ⟨n1.toNat, by omega⟩
        obtain ⟨⟨con, t2, q2⟩, e2⟩ : ∃ x, reLoop n [] t1 q1 = x := ⟨_, rfl⟩
        have k2 := reLoop_len n [] t1 q1
        rw [e2] at k2
        simp only [List.length_nil] at k2
        obtain ⟨⟨m1, t3, q3⟩, e3⟩ : ∃ x, iRd t2 q2 ((t.length : Int) + 1) = x := ⟨_, rfl⟩
        have g3 := iRd_range t2 q2 _ hN0 hNlt
        rw [e3] at g3
        simp only at g3
        obtain ⟨m, rfl⟩ : ∃ m : Nat, m1 = (m : Int) := ⟨m1.toNat, by omega⟩
        obtain ⟨⟨ord, t4, q4⟩, e4⟩ : ∃ x, rlLoop m [] t3 q3 = x := ⟨_, rfl⟩
        have k4 := rlLoop_len m [] t3 q3
        rw [e4] at k4
        simp only [List.length_nil] at k4
        obtain ⟨⟨nx, t5, q5⟩, e5⟩ : ∃ x, iRd t4 q4 ((t.length : Int) + 1) = x := ⟨_, rfl⟩
        obtain ⟨⟨⟨hn, hp⟩, t6, q6⟩, e6⟩ : ∃ x, rvRd t5 q5 = x := ⟨_, rfl⟩
        have eS : rsRd t ((t.length : Int) + 1) = (⟨con, ord, nx, ⟨hn, hp⟩⟩, t6, q6) := by
          simp only [rsRd, e1, Int.toNat_natCast, e2, e3, e4, e5, e6]
        rw [eS] at hD
        simp only at hD
        have HD := Aside0.mk hD
        have HC1 := Aside0.mk (fun W hW => refr_Int (w.heap.size + 3) w.heap.size (some ad) c0 (2 :: t) t false ((t.length : Int) + 1) W hW hN0 hNlt)
        rw [e1] at HC1
        simp only at HC1
        have E2 := Aside0.mk e2
        have E3 := Aside0.mk e3
        have E4 := Aside0.mk e4
        have E5 := Aside0.mk e5
        have E6 := Aside0.mk e6
        clear hD eS e1 e2 e3 e4 e5 e6 H
        go_upto_region 13 with fail
        clear hx5 hlt5
        generalize wr.alloc (.cells #[.slice none 0 0, .slice none 0 0, .int .i64 0, .int .u64 0, .int .i64 0] 53) = w3 at HM ⊢
        go_upto_block 0 with (go_at_call 102; (with_reducible refine (HC1.out _ HM.out.rd).mono ?_); rintro e w2 ⟨rfl, hR, hg⟩; have HM2 := Aside0.mk (HM.out.grown hR hg); clear hR hg HC1)
        go_cut [10] (fun s10 wy => ∃ v u, Aside0 (SumR w wy (some ad) c0 (2 :: t) v u con [] 0 0 0 t2 q2))
        case first =>
          go_wp2_with fail
          go_loopw [10] (fun s10 wq => ∃ (i : Nat) (v u : Value) (acc : List S32) (l : List Int) (bad : Bool), i ≤ n ∧ s10 = .int .i64 i ∧ Aside0 (SumR w wq (some ad) c0 (2 :: t) v u acc [] 0 0 0 l bad) ∧ Aside0 (reLoop (n - i) acc l bad = (con, t2, q2)) ∧ Aside0 (acc.length = i))
            (fun s10 _ => n - (intOf s10).toNat)
          case atStart => exact ⟨0, _, _, [], t1, q1, Nat.zero_le _, rfl, HM2, E2, ⟨rfl⟩⟩
          case round =>
            obtain ⟨i, v, u, acc, l, bad, hi, rfl, HQ, HE, HK⟩ := hrel
            have ltq := HQ.out.lt
            by_cases hin : i < n
            · obtain ⟨d, hd⟩ : ∃ d, n - i = d + 1 := ⟨n - i - 1, by omega⟩
              cases bad
              · have he := HE.out
                rw [hd] at he
                simp only [reLoop, Bool.false_eq_true, if_false] at he
                obtain ⟨n2, hb2', -, -⟩ := HQ.out.rd.isOk
                obtain ⟨hc0, hc1, hf0, hf1, hl3⟩ := blk2 hb2'
                clear hb2'
                have HCE := Aside0.mk (fun W hW => refr_Entry (w.heap.size + 3) w.heap.size (some ad) c0 (2 :: t) l false W hW)
                obtain ⟨⟨⟨⟨⟨en, ep⟩, eq, es⟩, em⟩, l', bad'⟩, hu⟩ : ∃ u, reRd l false = u := ⟨_, rfl⟩
                rw [hu] at HCE he
                simp only at HCE he
                have HE2 := Aside0.mk (show reLoop (n - (i + 1)) (acc ++ [⟨⟨⟨en, ep⟩, eq, es⟩, em⟩]) l' bad' = (con, t2, q2) from by rw [show n - (i + 1) = d by omega]; exact he)
                clear he HE hu hd
                have hinI : (i : Int) < (n : Int) := by omega
                have hnI : (n : Int) < 4398046511104 := by omega
                obtain ⟨hs0, hs1, hs2, hs3, hs4, hg0, hg1, hg2, hg3, hg4, hsl⟩ := blk5 HQ.out.b3
                obtain ⟨Av, cv, rfl⟩ := Kd.N_slice HQ.out.rv
                go_upto_region 17 with fail
                go_region_law_o (first
                  | (refine step_callG (by rfl) (f := 101) Try.func101 (by kernel_rfl) rfl #[.pointer (some ⟨w.heap.size + 3, 0, none⟩)] rfl (by simp [Act.eval, Act.put]) ?_; refine (HCE.out _ (HQ.out.rd.keep (by with_reducible repeat (first | exact Below.refl _ _ | refine Below.drew ?_ | apply pw_below_drewN)))).mono ?_; rintro e w2 ⟨Am, cm, rfl, hm, hR, hg⟩; have HM5 := Aside0.mk (SumR.grown (HQ.out.below (by with_reducible repeat (first | exact Below.refl _ _ | refine Below.drew ?_ | apply pw_below_drewN))) hR hg); have HV5 := Aside0.mk hm; obtain ⟨hz0, hz1, hz2, hz3, hz4, hy0, hy1, hy2, hy3, hy4, hyl⟩ := blk5 HM5.out.b3; clear hm hR hg; refine ⟨_, rfl, ?_⟩)
                  | (refine Kd.N_append_step k32 (w0 := w) (W := w2) w.heap.size (by rfl) (.tmp 70) (.tmp 73) 22 32 (.agg zE) 56 rfl Try.underlying22 info32 rfl (by decide) (by omega) (.slice Av acc.length cv) acc (⟨⟨⟨en, ep⟩, eq, es⟩, em⟩ : S32) [.int .u64 en, .int .i64 ep, .int .u64 eq, .int .i64 es, .slice Am em.length cm] (fun k => (k < w.heap.size ∨ w.heap.size + 4 < k) ∧ some k ≠ u.ownBlock) (fun k => k < w.heap.size) (by simp [Act.eval, Act.put]) (by simp [Act.eval, Act.put]) ?aP ?aK ?aF ?aO ?aB ?aS ?aL ?_; (case aP => exact k32_mkF _ _ (⟨⟨⟨en, ep⟩, eq, es⟩, em⟩ : S32) (Kd.V_reads' HV5.out).2.1 (Kd.V_F HV5.out)); (case aK => (intro k hk; exact ⟨⟨Or.inl hk, fun e => by have h7 := HM5.out.ru.1 k e.symm; omega⟩, fun e => by have h7 := HM5.out.vown k e.symm; omega⟩)); (case aF => (intro k hk; exact ⟨Or.inr (by have := HM5.out.lt; omega), fun e => by have h7 := Kd.R_lt HM5.out.ru k e.symm; omega⟩)); (case aO => exact HM5.out.rv); (case aB => exact HM5.out.bel); (case aS => (have := HM5.out.lt; omega)); (case aL => (have := HK.out; omega)); intro v1 w1 ho hb hg hat; obtain ⟨A1, cc1, rfl⟩ := Kd.N_slice ho; have hP := SumR.pushV HM5.out hg ho hb; have HP := Aside0.mk hP.1; obtain ⟨hw0, hw1, hw2, hw3, hw4, hd0, hd1, hd2, hd3, hd4, hzl⟩ := blk5 hP.2; clear hP ho hb hg hat))
                all_goals go_wp2_with fail
                all_goals exact ⟨⟨i + 1, _, _, acc ++ [(⟨⟨⟨en, ep⟩, eq, es⟩, em⟩ : S32)], l', bad', by omega, by simp, ⟨by have h7 := HP.out; rw [List.length_append] at h7; exact h7⟩, HE2, ⟨by have := HK.out; rw [List.length_append, List.length_singleton]; omega⟩⟩, by simp [intOf]; omega⟩
              · have he := HE.out
                rw [hd] at he
                simp only [reLoop, if_true, Prod.mk.injEq] at he
                obtain ⟨rfl, rfl, rfl⟩ := he
                obtain ⟨hc0, hc1, hf0, hf1, hl3⟩ := blk2 HQ.out.rd.isBad
                have hinI : (i : Int) < (n : Int) := by omega
                clear HE hd
                go_wp2_with fail
                go_meet
                exact ⟨_, _, HQ⟩
            · obtain rfl : i = n := by omega
              have he := HE.out
              rw [Nat.sub_self] at he
              simp only [reLoop, Prod.mk.injEq] at he
              obtain ⟨rfl, rfl, rfl⟩ := he
              clear HE
              go_wp2_with fail
              go_meet
              exact ⟨_, _, HQ⟩
        case rest =>
          clear HM
          obtain ⟨v, u, HQ⟩ := hcut
          have HC3 := Aside0.mk (refr_Int (w.heap.size + 3) w.heap.size (some ad) c0 (2 :: t) t2 q2 ((t.length : Int) + 1) _ HQ.out.rd hN0 hNlt)
          rw [E3.out] at HC3
          simp only at HC3
          go_upto_block 2 with (go_at_call 102; (with_reducible refine HC3.out.mono ?_); rintro e w2 ⟨rfl, hR, hg⟩; have HM2 := Aside0.mk (HQ.out.grown hR hg); clear hR hg HC3)
          go_cut [12] (fun s10 wy => ∃ v u, Aside0 (SumR w wy (some ad) c0 (2 :: t) v u con ord 0 0 0 t4 q4))
          case first =>
            go_wp2_with fail
            go_loopw [12] (fun s10 wq => ∃ (i : Nat) (v u : Value) (acc : List S27) (l : List Int) (bad : Bool), i ≤ m ∧ s10 = .int .i64 i ∧ Aside0 (SumR w wq (some ad) c0 (2 :: t) v u con acc 0 0 0 l bad) ∧ Aside0 (rlLoop (m - i) acc l bad = (ord, t4, q4)) ∧ Aside0 (acc.length = i))
              (fun s10 _ => m - (intOf s10).toNat)
            case atStart => exact ⟨0, _, _, [], t3, q3, Nat.zero_le _, rfl, HM2, E4, ⟨rfl⟩⟩
            case round =>
              obtain ⟨i, v, u, acc, l, bad, hi, rfl, HQ, HE, HK⟩ := hrel
              have ltq := HQ.out.lt
              by_cases hin : i < m
              · obtain ⟨d, hd⟩ : ∃ d, m - i = d + 1 := ⟨m - i - 1, by omega⟩
                cases bad
                · have he := HE.out
                  rw [hd] at he
                  simp only [rlLoop, Bool.false_eq_true, if_false] at he
                  obtain ⟨n2, hb2', -, -⟩ := HQ.out.rd.isOk
                  obtain ⟨hc0, hc1, hf0, hf1, hl3⟩ := blk2 hb2'
                  clear hb2'
                  have HCE := Aside0.mk (fun W hW => refr_Label (w.heap.size + 3) w.heap.size (some ad) c0 (2 :: t) l false W hW)
                  obtain ⟨⟨⟨⟨en, ep⟩, eq, es⟩, l', bad'⟩, hu⟩ : ∃ u, rlRd l false = u := ⟨_, rfl⟩
                  rw [hu] at HCE he
                  simp only at HCE he
                  have HE2 := Aside0.mk (show rlLoop (m - (i + 1)) (acc ++ [⟨⟨en, ep⟩, eq, es⟩]) l' bad' = (ord, t4, q4) from by rw [show m - (i + 1) = d by omega]; exact he)
                  clear he HE hu hd
                  have hinI : (i : Int) < (m : Int) := by omega
                  have hnI : (m : Int) < 4398046511104 := by omega
                  obtain ⟨hs0, hs1, hs2, hs3, hs4, hg0, hg1, hg2, hg3, hg4, hsl⟩ := blk5 HQ.out.b3
                  obtain ⟨Av, cv, rfl⟩ := Kd.R_slice HQ.out.ru
                  go_upto_region 22 with fail
                  go_region_law_o (first
                    | (refine step_callG (by rfl) (f := 103) Try.func103 (by kernel_rfl) rfl #[.pointer (some ⟨w.heap.size + 3, 0, none⟩)] rfl (by simp [Act.eval, Act.put]) ?_; refine (HCE.out _ (HQ.out.rd.keep (by with_reducible repeat (first | exact Below.refl _ _ | refine Below.drew ?_ | apply pw_below_drewN)))).mono ?_; rintro e w2 ⟨rfl, hR, hg⟩; have HM5 := Aside0.mk (SumR.grown (HQ.out.below (by with_reducible repeat (first | exact Below.refl _ _ | refine Below.drew ?_ | apply pw_below_drewN))) hR hg); obtain ⟨hz0, hz1, hz2, hz3, hz4, hy0, hy1, hy2, hy3, hy4, hyl⟩ := blk5 HM5.out.b3; clear hR hg; refine ⟨_, rfl, ?_⟩)
                    | (refine Kd.R_append_step k27 (w0 := w) (W := w2) w.heap.size (by rfl) (.tmp 93) (.tmp 96) 41 27 (.agg #[.int .u64 0, .int .i64 0, .int .u64 0, .int .i64 0]) 32 rfl Try.underlying41 info27 rfl (by decide) (by omega) (.slice Av acc.length cv) acc (⟨⟨en, ep⟩, eq, es⟩ : S27) [.int .u64 en, .int .i64 ep, .int .u64 eq, .int .i64 es] (fun k => w.heap.size + 4 < k) (fun k => w.heap.size + 4 < k ∧ some k ≠ (Value.slice Av acc.length cv).ownBlock) (by simp [Act.eval, Act.put]) (by simp [Act.eval, Act.put]) ?aP (fun _ hk => hk) ?aF ?aO ?aB ?aS ?aL ?_; (case aP => exact k27_mkM _ _ _ (⟨⟨en, ep⟩, eq, es⟩ : S27)); (case aF => (intro k hk; have := HM5.out.lt; omega)); (case aO => exact HM5.out.ru); (case aB => exact HM5.out.bel); (case aS => (have := HM5.out.lt; omega)); (case aL => (have := HK.out; omega)); intro v1 w1 ho hb hg hat; obtain ⟨A1, cc1, rfl⟩ := Kd.R_slice ho; have hP := SumR.pushU HM5.out hg ho hb hat; have HP := Aside0.mk hP.1; obtain ⟨hw0, hw1, hw2, hw3, hw4, hd0, hd1, hd2, hd3, hd4, hzl⟩ := blk5 hP.2; clear hP ho hb hg hat))
                  all_goals go_wp2_with fail
                  all_goals exact ⟨⟨i + 1, _, _, acc ++ [(⟨⟨en, ep⟩, eq, es⟩ : S27)], l', bad', by omega, by simp, ⟨by have h7 := HP.out; rw [List.length_append] at h7; exact h7⟩, HE2, ⟨by have := HK.out; rw [List.length_append, List.length_singleton]; omega⟩⟩, by simp [intOf]; omega⟩
                · have he := HE.out
                  rw [hd] at he
                  simp only [rlLoop, if_true, Prod.mk.injEq] at he
                  obtain ⟨rfl, rfl, rfl⟩ := he
                  obtain ⟨hc0, hc1, hf0, hf1, hl3⟩ := blk2 HQ.out.rd.isBad
                  have hinI : (i : Int) < (m : Int) := by omega
                  clear HE hd
                  go_wp2_with fail
                  go_meet
                  exact ⟨_, _, HQ⟩
              · obtain rfl : i = m := by omega
                have he := HE.out
                rw [Nat.sub_self] at he
                simp only [rlLoop, Prod.mk.injEq] at he
                obtain ⟨rfl, rfl, rfl⟩ := he
                clear HE
                go_wp2_with fail
                go_meet
                exact ⟨_, _, HQ⟩
          case rest =>
            clear HQ
            obtain ⟨v, u, HQ⟩ := hcut
            have ltq := HQ.out.lt
            have HC5 := Aside0.mk (refr_Int (w.heap.size + 3) w.heap.size (some ad) c0 (2 :: t) t4 q4 ((t.length : Int) + 1) _ HQ.out.rd hN0 hNlt)
            rw [E5.out] at HC5
            simp only at HC5
            obtain ⟨Av, cv, rfl⟩ := Kd.N_slice HQ.out.rv
            obtain ⟨Au, cu, rfl⟩ := Kd.R_slice HQ.out.ru
            go_upto_region 24 with (go_at_call 102; (with_reducible refine HC5.out.mono ?_); rintro e w2 ⟨rfl, hR, hg⟩; have HM2 := Aside0.mk (HQ.out.grown hR hg); obtain ⟨hs0, hs1, hs2, hs3, hs4, hf0, hf1, hf2, hf3, hf4, hsl⟩ := blk5 HM2.out.b3; clear hR hg HC5)
            have HM3 := Aside0.mk (HM2.out.set4 2 (.int .i64 nx) (nx' := nx) (hn' := 0) (hp' := 0) rfl rfl rfl)
            clear hs0 hs1 hs2 hs3 hs4 hf0 hf1 hf2 hf3 hf4 hsl HM2
            generalize w2.setCell ⟨w.heap.size + 4, 2, none⟩ (.int .i64 nx) = w3' at HM3 ⊢
            have lt3 := HM3.out.lt
            have HC6 := Aside0.mk (refr_View (w.heap.size + 3) w.heap.size (some ad) c0 (2 :: t) t5 q5 w3' HM3.out.rd)
            rw [E6.out] at HC6
            simp only at HC6
            go_upto_region 25 with (go_at_call 104; (with_reducible refine HC6.out.mono ?_); rintro e w4 ⟨rfl, hR, hg⟩; have HM4 := Aside0.mk (HM3.out.grown hR hg); obtain ⟨hs0, hs1, hs2, hs3, hs4, hf0, hf1, hf2, hf3, hf4, hsl⟩ := blk5 HM4.out.b3; clear hR hg HC6)
            have HM5 := Aside0.mk ((HM4.out.set4 3 (.int .u64 hn) (nx' := nx) (hn' := hn) (hp' := 0) rfl rfl rfl).set4 4 (.int .i64 hp) (nx' := nx) (hn' := hn) (hp' := hp) rfl rfl rfl)
            clear hs0 hs1 hs2 hs3 hs4 hf0 hf1 hf2 hf3 hf4 hsl HM4 HM3 HQ ltq lt3
            generalize (w4.setCell ⟨w.heap.size + 4, 3, none⟩ (.int .u64 hn)).setCell ⟨w.heap.size + 4, 4, none⟩ (.int .i64 hp) = w5 at HM5 ⊢
            go_cut [126] (fun s126 wy => ∃ (B : Bool), s126 = .bool B ∧ Aside0 (SumR w wy (some ad) c0 (2 :: t) (.slice Av con.length cv) (.slice Au ord.length cu) con ord nx hn hp t6 q6) ∧ Aside0 (if B = true then r = (0, noE, noS) else r = (2, noE, ⟨con, ord, nx, ⟨hn, hp⟩⟩)))
            case first =>
              obtain ⟨hs0, hs1, hs2, hs3, hs4, hf0, hf1, hf2, hf3, hf4, hsl⟩ := blk5 HM5.out.b3
              cases q6
              · obtain ⟨n2, hbb, hnl1, -⟩ := HM5.out.rd.isOk
                obtain ⟨hc0, hc1, hg0, hg1, hl3⟩ := blk2 hbb
                clear hbb
                by_cases ht6 : t6 = []
                · subst ht6
                  simp only [List.length_nil, List.length_cons, Nat.add_zero] at hnl1
                  subst hnl1
                  have hD := HD.out
                  simp only [and_self, if_true] at hD
                  obtain ⟨rb, hrb, hrr⟩ := Option.bind_eq_some_iff.1 hD
                  obtain ⟨-, hv2, hv3⟩ := Kd.N_reads' HM5.out.rv
                  obtain ⟨-, hu2, hu3⟩ := Kd.R_reads' HM5.out.ru
                  have HRC := Aside0.mk (fun W (hW : Below w5.heap.size w5 W) => folkmootref15_Right.calls k Av cv con Au cu ord nx hn hp rb W (Kd.C_below hv3 hW) hv2 (Kd.C_below hu3 hW) hu2 hrb)
                  have HS := Aside0.mk (fun (W' : World) (hW : Below w5.heap.size w5 W') => (show W'.cell? ⟨w.heap.size + 4, 0, none⟩ = some (.slice Av con.length cv) ∧ W'.cell? ⟨w.heap.size + 4, 1, none⟩ = some (.slice Au ord.length cu) ∧ W'.cell? ⟨w.heap.size + 4, 2, none⟩ = some (.int .i64 nx) ∧ W'.cell? ⟨w.heap.size + 4, 3, none⟩ = some (.int .u64 hn) ∧ W'.cell? ⟨w.heap.size + 4, 4, none⟩ = some (.int .i64 hp) ∧ W'.cell? ⟨w.heap.size + 3, 1, none⟩ = some (.int .i64 ((t.length + 1 : Nat) : Int)) ∧ (convert 30 9 (.slice (some ad) (t.length + 1) c0)).run Try.prog W' = .ok (.string (strOfNums (2 :: t))) W' from
                    ⟨(Below.cell hW (p := ⟨w.heap.size + 4, 0, none⟩) hsl).trans hs0, (Below.cell hW (p := ⟨w.heap.size + 4, 1, none⟩) hsl).trans hs1, (Below.cell hW (p := ⟨w.heap.size + 4, 2, none⟩) hsl).trans hs2, (Below.cell hW (p := ⟨w.heap.size + 4, 3, none⟩) hsl).trans hs3, (Below.cell hW (p := ⟨w.heap.size + 4, 4, none⟩) hsl).trans hs4, (Below.cell hW (p := ⟨w.heap.size + 3, 1, none⟩) hl3).trans hc1, HSTR.out _ (HM5.out.bel.trans (hW.mono (by have := HM5.out.bel.size; omega)))⟩))
                  cases rb
                  · simp only [Bool.false_eq_true, if_false, Option.some.injEq] at hrr
                    have HRR := Aside0.mk hrr
                    clear hD hrr hrb hv2 hv3 hu2 hu3 HD
                    refine wp_region_held_drew (S := (fun W' => W'.cell? ⟨w.heap.size + 4, 0, none⟩ = some (.slice Av con.length cv) ∧ W'.cell? ⟨w.heap.size + 4, 1, none⟩ = some (.slice Au ord.length cu) ∧ W'.cell? ⟨w.heap.size + 4, 2, none⟩ = some (.int .i64 nx) ∧ W'.cell? ⟨w.heap.size + 4, 3, none⟩ = some (.int .u64 hn) ∧ W'.cell? ⟨w.heap.size + 4, 4, none⟩ = some (.int .i64 hp) ∧ W'.cell? ⟨w.heap.size + 3, 1, none⟩ = some (.int .i64 ((t.length + 1 : Nat) : Int)) ∧ (convert 30 9 (.slice (some ad) (t.length + 1) c0)).run Try.prog W' = .ok (.string (strOfNums (2 :: t))) W')) (by kernel_rfl) ?w422S (fun hHeld => ?w422R)
                    case w422S => ((try dsimp only); (refine HS.out _ ?_; with_reducible repeat (first | exact HBW.out | exact HBV.out | exact Below.refl _ _ | refine Below.drew ?_ | apply pw_below_drewN)))
                    case' w422R =>
                      first | refine tU 0 hHeld ?_ | refine tH 0 hHeld ?_ | fail
                      try simp only [Act.put, List.setIfInBounds_toArray, List.set_cons_zero, List.set_cons_succ]
                      first | refine tU 1 hHeld ?_ | refine tH 1 hHeld ?_ | fail
                      try simp only [Act.put, List.setIfInBounds_toArray, List.set_cons_zero, List.set_cons_succ]
                      first | refine tU 2 hHeld ?_ | refine tH 2 hHeld ?_ | fail
                      try simp only [Act.put, List.setIfInBounds_toArray, List.set_cons_zero, List.set_cons_succ]
                      first | refine tU 3 hHeld ?_ | refine tH 3 hHeld ?_ | fail
                      try simp only [Act.put, List.setIfInBounds_toArray, List.set_cons_zero, List.set_cons_succ]
                      first | refine tU 4 hHeld ?_ | refine tH 4 hHeld ?_ | fail
                      try simp only [Act.put, List.setIfInBounds_toArray, List.set_cons_zero, List.set_cons_succ]
                      first
                        | refine tU 5 hHeld ?_
                        | refine tH 5 hHeld ?_
                        | (refine tkR 5 rfl (by kernel_rfl) (fun K hK => ?_); go_simp; (first | refine hK.out _ _ ?_ (fun hNew => ?_) | (((go_at_call 45; refine (HRC.out _ (by with_reducible repeat (first | exact Below.refl _ _ | refine Below.drew ?_ | apply pw_below_drewN))).mono ?_; rintro e w6 ⟨rfl, hb6⟩; have HBV := Aside0.mk (show Below w5.heap.size w5 w6 from Below.trans (by with_reducible repeat (first | exact Below.refl _ _ | refine Below.drew ?_ | apply pw_below_drewN)) (hb6.mono (by simp))); clear hb6)); (first | refine hK.out _ _ ?_ (fun hNew => ?_) | (go_wp2_with fail; refine hK.out _ _ ?_ (fun hNew => ?_)) | fail)) | (go_wp2_with fail; refine hK.out _ _ ?_ (fun hNew => ?_)) | fail); (focus ((try dsimp only); (refine HS.out _ ?_; with_reducible repeat (first | exact HBW.out | exact HBV.out | exact Below.refl _ _ | refine Below.drew ?_ | apply pw_below_drewN)))); clear hK K hHeld; have hHeld := hNew; clear hNew)
                        | fail
                      try simp only [Act.put, List.setIfInBounds_toArray, List.set_cons_zero, List.set_cons_succ]
                      first | refine tU 6 hHeld ?_ | refine tH 6 hHeld ?_ | fail
                      try simp only [Act.put, List.setIfInBounds_toArray, List.set_cons_zero, List.set_cons_succ]
                      first | refine tU 7 hHeld ?_ | refine tH 7 hHeld ?_ | fail
                      try simp only [Act.put, List.setIfInBounds_toArray, List.set_cons_zero, List.set_cons_succ]
                      first | refine tU 8 hHeld ?_ | refine tH 8 hHeld ?_ | fail
                      try simp only [Act.put, List.setIfInBounds_toArray, List.set_cons_zero, List.set_cons_succ]
                      first
                        | refine tU 9 hHeld ?_
                        | refine tH 9 hHeld ?_
                        | (refine tkR 9 rfl (by kernel_rfl) (fun K hK => ?_); go_simp; (first | refine hK.out _ _ ?_ (fun hNew => ?_) | (((go_at_call 45; refine (HRC.out _ (by with_reducible repeat (first | exact Below.refl _ _ | refine Below.drew ?_ | apply pw_below_drewN))).mono ?_; rintro e w6 ⟨rfl, hb6⟩; have HBV := Aside0.mk (show Below w5.heap.size w5 w6 from Below.trans (by with_reducible repeat (first | exact Below.refl _ _ | refine Below.drew ?_ | apply pw_below_drewN)) (hb6.mono (by simp))); clear hb6)); (first | refine hK.out _ _ ?_ (fun hNew => ?_) | (go_wp2_with fail; refine hK.out _ _ ?_ (fun hNew => ?_)) | fail)) | (go_wp2_with fail; refine hK.out _ _ ?_ (fun hNew => ?_)) | fail); (focus ((try dsimp only); (refine HS.out _ ?_; with_reducible repeat (first | exact HBW.out | exact HBV.out | exact Below.refl _ _ | refine Below.drew ?_ | apply pw_below_drewN)))); clear hK K hHeld; have hHeld := hNew; clear hNew)
                        | fail
                      try simp only [Act.put, List.setIfInBounds_toArray, List.set_cons_zero, List.set_cons_succ]
                      first | refine tU 10 hHeld ?_ | refine tH 10 hHeld ?_ | fail
                      try simp only [Act.put, List.setIfInBounds_toArray, List.set_cons_zero, List.set_cons_succ]
                      first | refine tU 11 hHeld ?_ | refine tH 11 hHeld ?_ | fail
                      try simp only [Act.put, List.setIfInBounds_toArray, List.set_cons_zero, List.set_cons_succ]
                      first | refine tU 12 hHeld ?_ | refine tH 12 hHeld ?_ | fail
                      try simp only [Act.put, List.setIfInBounds_toArray, List.set_cons_zero, List.set_cons_succ]
                      first | refine tU 13 hHeld ?_ | refine tH 13 hHeld ?_ | fail
                      try simp only [Act.put, List.setIfInBounds_toArray, List.set_cons_zero, List.set_cons_succ]
                      first | refine tU 16 hHeld ?_ | refine tH 16 hHeld ?_ | fail
                      try simp only [Act.put, List.setIfInBounds_toArray, List.set_cons_zero, List.set_cons_succ]
                      first | refine tU 17 hHeld ?_ | refine tH 17 hHeld ?_ | fail
                      try simp only [Act.put, List.setIfInBounds_toArray, List.set_cons_zero, List.set_cons_succ]
                      first
                        | refine tU 14 hHeld ?_
                        | refine tH 14 hHeld ?_
                        | (refine tkR 14 rfl (by kernel_rfl) (fun K hK => ?_); go_simp; (first | refine hK.out _ _ ?_ (fun hNew => ?_) | (((go_at_call 45; refine (HRC.out _ (by with_reducible repeat (first | exact Below.refl _ _ | refine Below.drew ?_ | apply pw_below_drewN))).mono ?_; rintro e w6 ⟨rfl, hb6⟩; have HBV := Aside0.mk (show Below w5.heap.size w5 w6 from Below.trans (by with_reducible repeat (first | exact Below.refl _ _ | refine Below.drew ?_ | apply pw_below_drewN)) (hb6.mono (by simp))); clear hb6)); (first | refine hK.out _ _ ?_ (fun hNew => ?_) | (go_wp2_with fail; refine hK.out _ _ ?_ (fun hNew => ?_)) | fail)) | (go_wp2_with fail; refine hK.out _ _ ?_ (fun hNew => ?_)) | fail); (focus ((try dsimp only); (refine HS.out _ ?_; with_reducible repeat (first | exact HBW.out | exact HBV.out | exact Below.refl _ _ | refine Below.drew ?_ | apply pw_below_drewN)))); clear hK K hHeld; have hHeld := hNew; clear hNew)
                        | fail
                      try simp only [Act.put, List.setIfInBounds_toArray, List.set_cons_zero, List.set_cons_succ]
                      first
                        | refine tU 15 hHeld ?_
                        | refine tH 15 hHeld ?_
                        | (refine tkR 15 rfl (by kernel_rfl) (fun K hK => ?_); go_simp; (first | refine hK.out _ _ ?_ (fun hNew => ?_) | (((go_at_call 45; refine (HRC.out _ (by with_reducible repeat (first | exact Below.refl _ _ | refine Below.drew ?_ | apply pw_below_drewN))).mono ?_; rintro e w6 ⟨rfl, hb6⟩; have HBV := Aside0.mk (show Below w5.heap.size w5 w6 from Below.trans (by with_reducible repeat (first | exact Below.refl _ _ | refine Below.drew ?_ | apply pw_below_drewN)) (hb6.mono (by simp))); clear hb6)); (first | refine hK.out _ _ ?_ (fun hNew => ?_) | (go_wp2_with fail; refine hK.out _ _ ?_ (fun hNew => ?_)) | fail)) | (go_wp2_with fail; refine hK.out _ _ ?_ (fun hNew => ?_)) | fail); (focus ((try dsimp only); (refine HS.out _ ?_; with_reducible repeat (first | exact HBW.out | exact HBV.out | exact Below.refl _ _ | refine Below.drew ?_ | apply pw_below_drewN)))); clear hK K hHeld; have hHeld := hNew; clear hNew)
                        | fail
                      try simp only [Act.put, List.setIfInBounds_toArray, List.set_cons_zero, List.set_cons_succ]
                      first | refine tU 18 hHeld ?_ | refine tH 18 hHeld ?_ | fail
                      try simp only [Act.put, List.setIfInBounds_toArray, List.set_cons_zero, List.set_cons_succ]
                      first | refine tU 19 hHeld ?_ | refine tH 19 hHeld ?_ | fail
                      try simp only [Act.put, List.setIfInBounds_toArray, List.set_cons_zero, List.set_cons_succ]
                      refine wpAnyH_done (by kernel_rfl) ?_ _
                    all_goals go_wp2_with fail
                    all_goals go_meet
                    all_goals exact ⟨_, rfl, ⟨HM5.out.below HBV.out⟩, ⟨by simpa using HRR.out.symm⟩⟩
                  · simp only [if_true] at hrr
                    obtain ⟨o, ho, hoo⟩ := Option.bind_eq_some_iff.1 hrr
                    have HAC := Aside0.mk (fun W (hW : Below w5.heap.size w5 W) => folkmootref15_All.calls k Av cv con Au cu ord nx hn hp o W (Kd.C_below hv3 hW) hv2 (Kd.C_below hu3 hW) hu2 ho)
                    have HBIT := Aside0.mk (show (if (!(strOfNums o).toList == (strOfNums (2 :: t)).toList) = true then r = (0, noE, noS) else r = (2, noE, ⟨con, ord, nx, ⟨hn, hp⟩⟩)) from by
                      by_cases he : (strOfNums o).toList = (strOfNums (2 :: t)).toList
                      · rw [if_pos he] at hoo
                        injection hoo with hoo
                        rw [if_neg (by simpa using he), hoo]
                      · rw [if_neg he] at hoo
                        injection hoo with hoo
                        rw [if_pos (by simpa using he), hoo])
                    clear hD hrr hrb hv2 hv3 hu2 hu3 HD hoo ho
                    refine wp_region_held_drew (S := (fun W' => W'.cell? ⟨w.heap.size + 4, 0, none⟩ = some (.slice Av con.length cv) ∧ W'.cell? ⟨w.heap.size + 4, 1, none⟩ = some (.slice Au ord.length cu) ∧ W'.cell? ⟨w.heap.size + 4, 2, none⟩ = some (.int .i64 nx) ∧ W'.cell? ⟨w.heap.size + 4, 3, none⟩ = some (.int .u64 hn) ∧ W'.cell? ⟨w.heap.size + 4, 4, none⟩ = some (.int .i64 hp) ∧ W'.cell? ⟨w.heap.size + 3, 1, none⟩ = some (.int .i64 ((t.length + 1 : Nat) : Int)) ∧ (convert 30 9 (.slice (some ad) (t.length + 1) c0)).run Try.prog W' = .ok (.string (strOfNums (2 :: t))) W')) (by kernel_rfl) ?w438S (fun hHeld => ?w438R)
                    case w438S => ((try dsimp only); (refine HS.out _ ?_; with_reducible repeat (first | exact HBW.out | exact HBV.out | exact Below.refl _ _ | refine Below.drew ?_ | apply pw_below_drewN)))
                    case' w438R =>
                      first | refine tU 0 hHeld ?_ | refine tH 0 hHeld ?_ | fail
                      try simp only [Act.put, List.setIfInBounds_toArray, List.set_cons_zero, List.set_cons_succ]
                      first | refine tU 1 hHeld ?_ | refine tH 1 hHeld ?_ | fail
                      try simp only [Act.put, List.setIfInBounds_toArray, List.set_cons_zero, List.set_cons_succ]
                      first | refine tU 2 hHeld ?_ | refine tH 2 hHeld ?_ | fail
                      try simp only [Act.put, List.setIfInBounds_toArray, List.set_cons_zero, List.set_cons_succ]
                      first | refine tU 3 hHeld ?_ | refine tH 3 hHeld ?_ | fail
                      try simp only [Act.put, List.setIfInBounds_toArray, List.set_cons_zero, List.set_cons_succ]
                      first | refine tU 4 hHeld ?_ | refine tH 4 hHeld ?_ | fail
                      try simp only [Act.put, List.setIfInBounds_toArray, List.set_cons_zero, List.set_cons_succ]
                      first
                        | refine tU 5 hHeld ?_
                        | refine tH 5 hHeld ?_
                        | (refine tkR 5 rfl (by kernel_rfl) (fun K hK => ?_); go_simp; (first | refine hK.out _ _ ?_ (fun hNew => ?_) | ((first | (go_at_call 45; refine (HRC.out _ (by with_reducible repeat (first | exact Below.refl _ _ | refine Below.drew ?_ | apply pw_below_drewN))).mono ?_; rintro e w6 ⟨rfl, hb6⟩; have HBV := Aside0.mk (show Below w5.heap.size w5 w6 from Below.trans (by with_reducible repeat (first | exact Below.refl _ _ | refine Below.drew ?_ | apply pw_below_drewN)) (hb6.mono (by simp))); clear hb6) | (go_at_call 54; refine (HAC.out _ (by with_reducible repeat (first | exact HBV.out | refine Below.drew ?_ | apply pw_below_drewN))).mono ?_; rintro e w7 ⟨v7, rfl, ho, hb7⟩; have hcv := own_string (P := Try.prog) Try.underlying30 Try.underlying5 Try.underlying9 (Kd.own_of_R ho); have HBW := Aside0.mk (show Below w5.heap.size w5 w7 from Below.trans (by with_reducible repeat (first | exact HBV.out | refine Below.drew ?_ | apply pw_below_drewN)) (hb7.mono (by have := HBV.out.size; simpa using this))); clear ho hb7)); (first | refine hK.out _ _ ?_ (fun hNew => ?_) | (go_wp2_with fail; refine hK.out _ _ ?_ (fun hNew => ?_)) | fail)) | (go_wp2_with fail; refine hK.out _ _ ?_ (fun hNew => ?_)) | fail); (focus ((try dsimp only); (refine HS.out _ ?_; with_reducible repeat (first | exact HBW.out | exact HBV.out | exact Below.refl _ _ | refine Below.drew ?_ | apply pw_below_drewN)))); clear hK K hHeld; have hHeld := hNew; clear hNew)
                        | fail
                      try simp only [Act.put, List.setIfInBounds_toArray, List.set_cons_zero, List.set_cons_succ]
                      first | refine tU 6 hHeld ?_ | refine tH 6 hHeld ?_ | fail
                      try simp only [Act.put, List.setIfInBounds_toArray, List.set_cons_zero, List.set_cons_succ]
                      first | refine tU 7 hHeld ?_ | refine tH 7 hHeld ?_ | fail
                      try simp only [Act.put, List.setIfInBounds_toArray, List.set_cons_zero, List.set_cons_succ]
                      first | refine tU 8 hHeld ?_ | refine tH 8 hHeld ?_ | fail
                      try simp only [Act.put, List.setIfInBounds_toArray, List.set_cons_zero, List.set_cons_succ]
                      first
                        | refine tU 9 hHeld ?_
                        | refine tH 9 hHeld ?_
                        | (refine tkR 9 rfl (by kernel_rfl) (fun K hK => ?_); go_simp; (first | refine hK.out _ _ ?_ (fun hNew => ?_) | ((first | (go_at_call 45; refine (HRC.out _ (by with_reducible repeat (first | exact Below.refl _ _ | refine Below.drew ?_ | apply pw_below_drewN))).mono ?_; rintro e w6 ⟨rfl, hb6⟩; have HBV := Aside0.mk (show Below w5.heap.size w5 w6 from Below.trans (by with_reducible repeat (first | exact Below.refl _ _ | refine Below.drew ?_ | apply pw_below_drewN)) (hb6.mono (by simp))); clear hb6) | (go_at_call 54; refine (HAC.out _ (by with_reducible repeat (first | exact HBV.out | refine Below.drew ?_ | apply pw_below_drewN))).mono ?_; rintro e w7 ⟨v7, rfl, ho, hb7⟩; have hcv := own_string (P := Try.prog) Try.underlying30 Try.underlying5 Try.underlying9 (Kd.own_of_R ho); have HBW := Aside0.mk (show Below w5.heap.size w5 w7 from Below.trans (by with_reducible repeat (first | exact HBV.out | refine Below.drew ?_ | apply pw_below_drewN)) (hb7.mono (by have := HBV.out.size; simpa using this))); clear ho hb7)); (first | refine hK.out _ _ ?_ (fun hNew => ?_) | (go_wp2_with fail; refine hK.out _ _ ?_ (fun hNew => ?_)) | fail)) | (go_wp2_with fail; refine hK.out _ _ ?_ (fun hNew => ?_)) | fail); (focus ((try dsimp only); (refine HS.out _ ?_; with_reducible repeat (first | exact HBW.out | exact HBV.out | exact Below.refl _ _ | refine Below.drew ?_ | apply pw_below_drewN)))); clear hK K hHeld; have hHeld := hNew; clear hNew)
                        | fail
                      try simp only [Act.put, List.setIfInBounds_toArray, List.set_cons_zero, List.set_cons_succ]
                      first | refine tU 10 hHeld ?_ | refine tH 10 hHeld ?_ | fail
                      try simp only [Act.put, List.setIfInBounds_toArray, List.set_cons_zero, List.set_cons_succ]
                      first | refine tU 11 hHeld ?_ | refine tH 11 hHeld ?_ | fail
                      try simp only [Act.put, List.setIfInBounds_toArray, List.set_cons_zero, List.set_cons_succ]
                      first | refine tU 12 hHeld ?_ | refine tH 12 hHeld ?_ | fail
                      try simp only [Act.put, List.setIfInBounds_toArray, List.set_cons_zero, List.set_cons_succ]
                      first | refine tU 13 hHeld ?_ | refine tH 13 hHeld ?_ | fail
                      try simp only [Act.put, List.setIfInBounds_toArray, List.set_cons_zero, List.set_cons_succ]
                      first | refine tU 16 hHeld ?_ | refine tH 16 hHeld ?_ | fail
                      try simp only [Act.put, List.setIfInBounds_toArray, List.set_cons_zero, List.set_cons_succ]
                      first | refine tU 17 hHeld ?_ | refine tH 17 hHeld ?_ | fail
                      try simp only [Act.put, List.setIfInBounds_toArray, List.set_cons_zero, List.set_cons_succ]
                      first
                        | refine tU 14 hHeld ?_
                        | refine tH 14 hHeld ?_
                        | (refine tkR 14 rfl (by kernel_rfl) (fun K hK => ?_); go_simp; (first | refine hK.out _ _ ?_ (fun hNew => ?_) | ((first | (go_at_call 45; refine (HRC.out _ (by with_reducible repeat (first | exact Below.refl _ _ | refine Below.drew ?_ | apply pw_below_drewN))).mono ?_; rintro e w6 ⟨rfl, hb6⟩; have HBV := Aside0.mk (show Below w5.heap.size w5 w6 from Below.trans (by with_reducible repeat (first | exact Below.refl _ _ | refine Below.drew ?_ | apply pw_below_drewN)) (hb6.mono (by simp))); clear hb6) | (go_at_call 54; refine (HAC.out _ (by with_reducible repeat (first | exact HBV.out | refine Below.drew ?_ | apply pw_below_drewN))).mono ?_; rintro e w7 ⟨v7, rfl, ho, hb7⟩; have hcv := own_string (P := Try.prog) Try.underlying30 Try.underlying5 Try.underlying9 (Kd.own_of_R ho); have HBW := Aside0.mk (show Below w5.heap.size w5 w7 from Below.trans (by with_reducible repeat (first | exact HBV.out | refine Below.drew ?_ | apply pw_below_drewN)) (hb7.mono (by have := HBV.out.size; simpa using this))); clear ho hb7)); (first | refine hK.out _ _ ?_ (fun hNew => ?_) | (go_wp2_with fail; refine hK.out _ _ ?_ (fun hNew => ?_)) | fail)) | (go_wp2_with fail; refine hK.out _ _ ?_ (fun hNew => ?_)) | fail); (focus ((try dsimp only); (refine HS.out _ ?_; with_reducible repeat (first | exact HBW.out | exact HBV.out | exact Below.refl _ _ | refine Below.drew ?_ | apply pw_below_drewN)))); clear hK K hHeld; have hHeld := hNew; clear hNew)
                        | fail
                      try simp only [Act.put, List.setIfInBounds_toArray, List.set_cons_zero, List.set_cons_succ]
                      first
                        | refine tU 15 hHeld ?_
                        | refine tH 15 hHeld ?_
                        | (refine tkR 15 rfl (by kernel_rfl) (fun K hK => ?_); go_simp; (first | refine hK.out _ _ ?_ (fun hNew => ?_) | ((first | (go_at_call 45; refine (HRC.out _ (by with_reducible repeat (first | exact Below.refl _ _ | refine Below.drew ?_ | apply pw_below_drewN))).mono ?_; rintro e w6 ⟨rfl, hb6⟩; have HBV := Aside0.mk (show Below w5.heap.size w5 w6 from Below.trans (by with_reducible repeat (first | exact Below.refl _ _ | refine Below.drew ?_ | apply pw_below_drewN)) (hb6.mono (by simp))); clear hb6) | (go_at_call 54; refine (HAC.out _ (by with_reducible repeat (first | exact HBV.out | refine Below.drew ?_ | apply pw_below_drewN))).mono ?_; rintro e w7 ⟨v7, rfl, ho, hb7⟩; have hcv := own_string (P := Try.prog) Try.underlying30 Try.underlying5 Try.underlying9 (Kd.own_of_R ho); have HBW := Aside0.mk (show Below w5.heap.size w5 w7 from Below.trans (by with_reducible repeat (first | exact HBV.out | refine Below.drew ?_ | apply pw_below_drewN)) (hb7.mono (by have := HBV.out.size; simpa using this))); clear ho hb7)); (first | refine hK.out _ _ ?_ (fun hNew => ?_) | (go_wp2_with fail; refine hK.out _ _ ?_ (fun hNew => ?_)) | fail)) | (go_wp2_with fail; refine hK.out _ _ ?_ (fun hNew => ?_)) | fail); (focus ((try dsimp only); (refine HS.out _ ?_; with_reducible repeat (first | exact HBW.out | exact HBV.out | exact Below.refl _ _ | refine Below.drew ?_ | apply pw_below_drewN)))); clear hK K hHeld; have hHeld := hNew; clear hNew)
                        | fail
                      try simp only [Act.put, List.setIfInBounds_toArray, List.set_cons_zero, List.set_cons_succ]
                      first | refine tU 18 hHeld ?_ | refine tH 18 hHeld ?_ | fail
                      try simp only [Act.put, List.setIfInBounds_toArray, List.set_cons_zero, List.set_cons_succ]
                      first | refine tU 19 hHeld ?_ | refine tH 19 hHeld ?_ | fail
                      try simp only [Act.put, List.setIfInBounds_toArray, List.set_cons_zero, List.set_cons_succ]
                      refine wpAnyH_done (by kernel_rfl) ?_ _
                    go_wp2_with fail
                    go_meet
                    exact ⟨_, rfl, ⟨HM5.out.below HBW.out⟩, HBIT⟩
                · have hD := HD.out
                  rw [if_neg (by simp [ht6])] at hD
                  injection hD with hD
                  have hne2 : (((n2 : Int)) == (t.length : Int) + 1) = false := by
                    rw [beq_eq_false_iff_ne]
                    have : 0 < t6.length := by cases t6; exact absurd rfl ht6; simp
                    simp only [List.length_cons] at hnl1
                    omega
                  have hne3 : ((n2 : Int) != (t.length : Int) + 1) = true := by simp only [bne, hne2, Bool.not_false]
                  clear hnl1 HD
                  go_quiet (fail)
                  go_wp2_with fail
                  go_meet
                  exact ⟨true, rfl, ⟨HM5.out.below (pw_below_drewN (Below.refl _ _) _)⟩, ⟨by simpa using hD.symm⟩⟩
              · obtain ⟨hc0, hc1, hg0, hg1, hl3⟩ := blk2 HM5.out.rd.isBad
                have hD := HD.out
                simp only [Bool.true_eq_false, false_and, if_false, Option.some.injEq] at hD
                have hne2 : ((-1 : Int) == (t.length : Int) + 1) = false := by
                  rw [beq_eq_false_iff_ne]
                  omega
                have hne3 : ((-1 : Int) != (t.length : Int) + 1) = true := by simp only [bne, hne2, Bool.not_false]
                clear HD
                go_quiet (fail)
                go_wp2_with fail
                go_meet
                exact ⟨true, rfl, ⟨HM5.out.below (pw_below_drewN (Below.refl _ _) _)⟩, ⟨by simpa using hD.symm⟩⟩
            case rest =>
              clear HD HM5
              obtain ⟨B, rfl, HM, HB⟩ := hcut
              obtain ⟨he0, he1, he2, he3, he4, hg0, hg1, hg2, hg3, hg4, hel⟩ := blk5 HM.out.b0
              obtain ⟨hr0, hr1, hr2, hr3, hr4, hq0, hq1, hq2, hq3, hq4, hrl⟩ := blk5 HM.out.b1
              obtain ⟨hn0, hn1, hn2, hn3, hn4, hm0, hm1, hm2, hm3, hm4, hnl⟩ := blk5 HM.out.b2
              obtain ⟨hs0, hs1, hs2, hs3, hs4, hf0, hf1, hf2, hf3, hf4, hsl⟩ := blk5 HM.out.b3
              cases B
              · have hB := HB.out
                simp only [Bool.false_eq_true, if_false] at hB
                subst hB
                clear HB
                go_wp2_with fail
                go_region
                all_goals go_wp2_with fail
                all_goals refine bodyPost_ret (results_tcc rfl _ _ w.heap.size (w.heap.size + 1) 32 53 zE #[.slice Av con.length cv, .slice Au ord.length cu, .int .i64 nx, .int .u64 hn, .int .i64 hp] (0, 0) (0, 0) _ _ rfl ?p1_5 rfl ?p2_5 Try.underlying32 rfl (by kernel_rfl) Try.underlying53 rfl (by kernel_rfl)) rfl ?p3_5
                all_goals try (case p1_5 => with_reducible first | exact blk_drew (fin_put (by omega) HM.out.b0 HM.out.b1 _ _ _ _ _ _ _ _ _ _).1 | exact (fin_put (by omega) HM.out.b0 HM.out.b1 _ _ _ _ _ _ _ _ _ _).1)
                all_goals try (case p2_5 => with_reducible first | exact blk_drew (fin_put (by omega) HM.out.b0 HM.out.b1 _ _ _ _ _ _ _ _ _ _).2 | exact (fin_put (by omega) HM.out.b0 HM.out.b1 _ _ _ _ _ _ _ _ _ _).2)
                all_goals refine ⟨_, _, _, rfl, Kd.V_nil _ _ _ _ _, ?_, ?_, ?_⟩
                all_goals try (with_reducible first | exact (fin_below HM.out.bel (Nat.le_refl _) (by omega) _ _ _ _ _ _ _ _ _ _).drew | exact (fin_below HM.out.bel (Nat.le_refl _) (by omega) _ _ _ _ _ _ _ _ _ _))
                all_goals with_reducible first | exact Kd.V_drew (fin_V (Kd.N_V HM.out.rv) (fun k hk => by have := hk.1; omega) (fun k hk => by have := hk.1; omega) _ _ _ _ _ _ _ _ _ _) | exact fin_V (Kd.N_V HM.out.rv) (fun k hk => by have := hk.1; omega) (fun k hk => by have := hk.1; omega) _ _ _ _ _ _ _ _ _ _ | exact Kd.V_drew (fin_V (Kd.N_V (Kd.R_N HM.out.ru)) (fun k hk => by omega) (fun k hk => by omega) _ _ _ _ _ _ _ _ _ _) | exact fin_V (Kd.N_V (Kd.R_N HM.out.ru)) (fun k hk => by omega) (fun k hk => by omega) _ _ _ _ _ _ _ _ _ _
              · have hB := HB.out
                simp only [if_true] at hB
                subst hB
                clear HB
                go_wp2_with fail
                go_region
                all_goals go_wp2_with fail
                all_goals refine bodyPost_ret (results_tcc rfl _ _ w.heap.size (w.heap.size + 1) 32 53 zE zS (0, 0) (0, 0) _ _ rfl ?p1_6 rfl ?p2_6 Try.underlying32 rfl (by kernel_rfl) Try.underlying53 rfl (by kernel_rfl)) rfl ?p3_6
                all_goals try (case p1_6 => with_reducible first | exact blk_drew (fin_put (by omega) HM.out.b0 HM.out.b1 _ _ _ _ _ _ _ _ _ _).1 | exact (fin_put (by omega) HM.out.b0 HM.out.b1 _ _ _ _ _ _ _ _ _ _).1)
                all_goals try (case p2_6 => with_reducible first | exact blk_drew (fin_put (by omega) HM.out.b0 HM.out.b1 _ _ _ _ _ _ _ _ _ _).2 | exact (fin_put (by omega) HM.out.b0 HM.out.b1 _ _ _ _ _ _ _ _ _ _).2)
                all_goals refine ⟨_, _, _, rfl, Kd.V_nil _ _ _ _ _, Kd.V_nil _ _ _ _ _, Kd.V_nil _ _ _ _ _, ?_⟩
                all_goals try (with_reducible first | exact (fin_below HM.out.bel (Nat.le_refl _) (by omega) _ _ _ _ _ _ _ _ _ _).drew | exact (fin_below HM.out.bel (Nat.le_refl _) (by omega) _ _ _ _ _ _ _ _ _ _))
      · have hbq2 : (b == 2) = false := by simpa using hb2
        have hD := H.out
        simp only [refDecode.g, if_neg hb1, if_neg hb2, Option.some.injEq] at hD
        subst hD
        clear H
        go_upto_region 12 with fail
        clear hx5 hlt5
        generalize wr.alloc (.cells #[.slice none 0 0, .slice none 0 0, .int .i64 0, .int .u64 0, .int .i64 0] 53) = w3 at HM ⊢
        obtain ⟨he0, he1, he2, he3, he4, hg0, hg1, hg2, hg3, hg4, hel⟩ := blk5 HM.out.b0
        obtain ⟨hr0, hr1, hr2, hr3, hr4, hq0, hq1, hq2, hq3, hq4, hrl⟩ := blk5 HM.out.b1
        obtain ⟨hn0, hn1, hn2, hn3, hn4, hm0, hm1, hm2, hm3, hm4, hnl⟩ := blk5 HM.out.b2
        obtain ⟨hs0, hs1, hs2, hs3, hs4, hf0, hf1, hf2, hf3, hf4, hsl⟩ := blk5 HM.out.b3
        go_region
        all_goals go_wp2_with fail
        all_goals refine bodyPost_ret (results_tcc rfl _ _ w.heap.size (w.heap.size + 1) 32 53 zE zS (0, 0) (0, 0) _ _ rfl ?p1_4 rfl ?p2_4 Try.underlying32 rfl (by kernel_rfl) Try.underlying53 rfl (by kernel_rfl)) rfl ?p3_4
        all_goals try (case p1_4 => with_reducible first | exact blk_drew (fin_put (by omega) HM.out.b0 HM.out.b1 _ _ _ _ _ _ _ _ _ _).1 | exact (fin_put (by omega) HM.out.b0 HM.out.b1 _ _ _ _ _ _ _ _ _ _).1)
        all_goals try (case p2_4 => with_reducible first | exact blk_drew (fin_put (by omega) HM.out.b0 HM.out.b1 _ _ _ _ _ _ _ _ _ _).2 | exact (fin_put (by omega) HM.out.b0 HM.out.b1 _ _ _ _ _ _ _ _ _ _).2)
        all_goals refine ⟨_, _, _, rfl, Kd.V_nil _ _ _ _ _, Kd.V_nil _ _ _ _ _, Kd.V_nil _ _ _ _ _, ?_⟩
        all_goals try (with_reducible first | exact (fin_below HM.out.bel (Nat.le_refl _) (by omega) _ _ _ _ _ _ _ _ _ _).drew | exact (fin_below HM.out.bel (Nat.le_refl _) (by omega) _ _ _ _ _ _ _ _ _ _))
end Go.Proofs.Ytioooiflpabngaa.PAll
end
section
namespace Go.Proofs.Ytioooiflpabngaa.PAll
open Go.RowKit Go.Proofs.YtioooiflpabngaaW.PrintWords Go.Proofs.YtioooiflpabngaaW.PrintLast Go.Proofs.YtioooiflpabngaaW.PrintMore
set_option linter.unusedVariables false
set_option linter.unusedSimpArgs false
def folkmootlaw15_awake.f : Option Bool := some true
theorem encodes_one : content_EncodeOne.f 20 1 0 1 0 [97] = some ([1, 1, 0, 1, 0, 1, 97], 0) := by kernel_rfl
theorem C_const (W : World) : Kd.C (Kd.int .u8) (W.alloc (.cells #[.int .u8 97] 5 (1, 2))) (some ⟨W.heap.size, 0, none⟩) [97].length [(97 : Int)] := by
  refine ⟨rfl, by decide, fun _ => ⟨_, rfl, fun j p hj => ?_⟩⟩
  match j, hj with
  | 0, hj =>
    simp at hj
    subst hj
    refine ⟨[.int .u8 97], rfl, rfl, fun i u hi => ?_⟩
    match i, hi with
    | 0, hi =>
      simp at hi
      subst hi
      show World.cell? _ ⟨W.heap.size, 0, none⟩ = _
      simp only [World.cell?]
      rw [heap_alloc_new]
      rfl
    | i + 1, hi => simp at hi
  | j + 1, hj => simp at hj
set_option maxHeartbeats 8000000 in
set_option maxRecDepth 100000 in
theorem folkmootlaw15_awake.calls (r : Bool) (w : World) (h : folkmootlaw15_awake.f = some r) :
    Calls Try.prog 22 #[] w fun e w' => e = .returned (.bool r) ∧ Below w.heap.size w w' := by
  have hu25 := Try.underlying25
  have hu27 := Try.underlying27
  have hu32 := Try.underlying32
  injection h with h
  subst h
  have kc := fun (w : World) (C : Array Value) (n c : Nat) => Lib.run_convert_bytes_const (P := Try.prog) w 30 5 C n c Try.underlying30 Try.underlying5
  have hs : ((strOfNums [1, 1, 0, 1, 0, 1, 97]).toList == ([1, 1, 0, 1, 0, 1, 97] : List UInt8)) = true := by kernel_rfl
  go_enter Try.func22, Try.ntmps22
  go_wp2_with (go_at_call 46; refine (content_EncodeOne.calls 20 1 0 1 0 _ 1 [97] _ _ _ (C_const w) (by decide) encodes_one).mono ?_; rintro e w' ⟨v, rfl, ho, hb⟩; have hcv := own_string (P := Try.prog) Try.underlying30 Try.underlying5 Try.underlying9 (Kd.own_of_R ho))
  go_ret
  exact ⟨rfl, below_step (below_alloc (Below.refl _ _) _) hb⟩
end Go.Proofs.Ytioooiflpabngaa.PAll
end
section
namespace Go.Proofs.Ytioooiflpabngaa.PAll
open Go.RowKit Go.Proofs.YtioooiflpabngaaW.PrintWords Go.Proofs.YtioooiflpabngaaW.PrintLast Go.Proofs.YtioooiflpabngaaW.PrintMore
set_option linter.unusedVariables false
set_option linter.unusedSimpArgs false
theorem F_of_C {w : World} {A : Option Addr} {l : List Int} (h : Kd.C (Kd.int .u8) w A l.length l) : Kd.F (Kd.int .u8) w (fun k => k < w.heap.size) A l.length l := fun W' hW => by
  refine C_low h (B := w.heap.size) (fun ad e hp => ?_) (fun k hk => hW k hk hk)
  obtain ⟨ad', e', hx⟩ := Kd.at_int h 0 (by omega) (by omega)
  rw [e] at e'
  cases e'
  simp only [Int.toNat_zero, Addr.add_zero'] at hx
  exact World.block_lt_of_cell? w _ hx
theorem alike_self (s : S53) (hb : ∀ e ∈ s.f0, Byt e.f1) (h0 : s.f0.length ≤ 1000000) (h1 : s.f1.length ≤ 1000000) : Ev (fun k => folkmootref15_Alike.f k s.f0 s.f1 s.f2 s.f3.f0 s.f3.f1 s.f0 s.f1 s.f2 s.f3.f0 s.f3.f1) true := by
  obtain ⟨r, hr, hi⟩ := alike_any s s (by omega) (by omega) hb hb
  rw [hi.2 rfl] at hr
  exact hr
set_option maxHeartbeats 8000000 in
set_option maxRecDepth 100000 in
theorem lawReads.calls (A0 : Option Addr) (c0 : Nat) (l0 : List Int) (w : World) (hr0 : Kd.C (Kd.int .u8) w A0 l0.length l0) (hc0 : l0.length ≤ c0) (hb0 : Byt l0) :
    Calls Try.prog 14 #[.slice A0 l0.length c0] w fun e w' => e = .returned (.bool true) ∧ Below w.heap.size w w' := by
  have hu32 := Try.underlying32
  have hu53 := Try.underlying53
  have HR0 := Aside0.mk hr0
  have HF0 := Aside0.mk (F_of_C hr0)
  have HC0 := Aside0.mk hc0
  have HB0 := Aside0.mk hb0
  clear hr0 hc0 hb0
  have hmax : l0.length ≤ 9223372036854775807 := HR0.out.2.1
  have HAW := Aside0.mk (fun W => folkmootlaw15_awake.calls true W rfl)
  by_cases hbig : l0.length > 3000
  · go_enter Try.func14, Try.ntmps14
    go_wp2_with (first
      | (go_at_call 22; refine (HAW.out w).mono ?_; rintro e w2 ⟨rfl, hb⟩; have HB2 := Aside0.mk hb; clear hb)
      | (go_at_call 22; refine (HAW.out w2).mono ?_; rintro e w3 ⟨rfl, hb⟩; have HB3 := Aside0.mk hb; clear hb))
    go_ret
    exact ⟨rfl, HB2.out.trans (HB3.out.mono HB2.out.size)⟩
  · have hsm : (l0.length : Int) ≤ 3000 := by omega
    obtain ⟨K, x, s, hK, hP, hQ, hx, hs, hl0, hl1⟩ := decode_alike l0 HB0.out (by omega)
    obtain ⟨k1, hP⟩ := hP.get
    obtain ⟨k2, hQ⟩ := hQ.get
    obtain ⟨k3, hA⟩ := (alike_self s hs hl0 hl1).get
    obtain ⟨⟨⟨n, p⟩, q, sq⟩, m⟩ := x
    obtain ⟨con, ord, nx, ⟨hn, hp⟩⟩ := s
    have HD := Aside0.mk (fun W (hW : Below w.heap.size w W) => content_Decode.calls k1 A0 c0 l0 _ W (Kd.C_below HR0.out hW) HC0.out (by omega) hP)
    have HQ := Aside0.mk (fun W (hW : Below w.heap.size w W) => refDecode.calls k2 A0 c0 l0 _ W (Kd.C_below HR0.out hW) (F_of_C (Kd.C_below HR0.out hW)) HC0.out (by omega) HB0.out hQ)
    have HA := Aside0.mk hA
    have HK := Aside0.mk hK
    clear hP hQ hA hx hs hl0 hl1 hK
    simp only at HA
    go_enter Try.func14, Try.ntmps14
    go_upto_region 4 with (first
      | (go_at_call 22; refine (HAW.out w).mono ?_; rintro e w2 ⟨rfl, hb⟩; have HB2 := Aside0.mk hb; clear hb)
      | (go_at_call 50; refine (HD.out w2 HB2.out).mono ?_; rintro e w3 ⟨v5, v6, v7, rfl, h5, h6, h7, hb⟩; simp only at h5 h6 h7; obtain ⟨A5, c5, rfl⟩ := Kd.R_slice h5; obtain ⟨A6, c6, rfl⟩ := Kd.R_slice h6; obtain ⟨A7, c7, rfl⟩ := Kd.R_slice h7; have H5 := Aside0.mk h5; have H6 := Aside0.mk h6; have H7 := Aside0.mk h7; have HB3 := Aside0.mk (HB2.out.trans (hb.mono HB2.out.size)); clear h5 h6 h7 hb))
    have hs3 := HB3.out.size
    have HX4 := Aside0.mk (blk_alloc (blk_new w3 (.cells #[.int .u64 n, .int .i64 p, .int .u64 q, .int .i64 sq, .slice A5 m.length c5] 32)) (.cells #[.slice A6 con.length c6, .slice A7 ord.length c7, .int .i64 nx, .int .u64 hn, .int .i64 hp] 53))
    have HY4 := Aside0.mk (show ((w3.alloc (.cells #[.int .u64 n, .int .i64 p, .int .u64 q, .int .i64 sq, .slice A5 m.length c5] 32)).alloc (.cells #[.slice A6 con.length c6, .slice A7 ord.length c7, .int .i64 nx, .int .u64 hn, .int .i64 hp] 53)).heap[w3.heap.size + 1]? = some (.cells #[.slice A6 con.length c6, .slice A7 ord.length c7, .int .i64 nx, .int .u64 hn, .int .i64 hp] 53 (0, 0)) from by have h7 := blk_new (w3.alloc (.cells #[.int .u64 n, .int .i64 p, .int .u64 q, .int .i64 sq, .slice A5 m.length c5] 32)) (.cells #[.slice A6 con.length c6, .slice A7 ord.length c7, .int .i64 nx, .int .u64 hn, .int .i64 hp] 53); rwa [World.size_alloc] at h7)
    have HB4 := Aside0.mk (show Below w.heap.size w ((w3.alloc (.cells #[.int .u64 n, .int .i64 p, .int .u64 q, .int .i64 sq, .slice A5 m.length c5] 32)).alloc (.cells #[.slice A6 con.length c6, .slice A7 ord.length c7, .int .i64 nx, .int .u64 hn, .int .i64 hp] 53)) from (HB3.out.alloc hs3 _).alloc (by simp only [World.size_alloc]; omega) _)
    have H54 := Aside0.mk (Kd.R_alloc (Kd.R_alloc H5.out (.cells #[.int .u64 n, .int .i64 p, .int .u64 q, .int .i64 sq, .slice A5 m.length c5] 32)) (.cells #[.slice A6 con.length c6, .slice A7 ord.length c7, .int .i64 nx, .int .u64 hn, .int .i64 hp] 53))
    have H64 := Aside0.mk (Kd.R_alloc (Kd.R_alloc H6.out (.cells #[.int .u64 n, .int .i64 p, .int .u64 q, .int .i64 sq, .slice A5 m.length c5] 32)) (.cells #[.slice A6 con.length c6, .slice A7 ord.length c7, .int .i64 nx, .int .u64 hn, .int .i64 hp] 53))
    have H74 := Aside0.mk (Kd.R_alloc (Kd.R_alloc H7.out (.cells #[.int .u64 n, .int .i64 p, .int .u64 q, .int .i64 sq, .slice A5 m.length c5] 32)) (.cells #[.slice A6 con.length c6, .slice A7 ord.length c7, .int .i64 nx, .int .u64 hn, .int .i64 hp] 53))
    clear H5 H6 H7
    generalize (w3.alloc (.cells #[.int .u64 n, .int .i64 p, .int .u64 q, .int .i64 sq, .slice A5 m.length c5] 32)).alloc (.cells #[.slice A6 con.length c6, .slice A7 ord.length c7, .int .i64 nx, .int .u64 hn, .int .i64 hp] 53) = w4 at HX4 HY4 HB4 H54 H64 H74 ⊢
    generalize w3.heap.size = bx at HX4 HY4 hs3 ⊢
    go_upto_region 5 with (go_at_call 52; refine (HQ.out w4 HB4.out).mono ?_; rintro e w5 ⟨v5, v6, v7, rfl, h5, h6, h7, hb⟩; simp only at h5 h6 h7; obtain ⟨B5, d5, rfl⟩ := Kd.V_slice h5; obtain ⟨B6, d6, rfl⟩ := Kd.V_slice h6; obtain ⟨B7, d7, rfl⟩ := Kd.V_slice h7; have H5 := Aside0.mk h5; have H6 := Aside0.mk h6; have H7 := Aside0.mk h7; have HB5 := Aside0.mk hb; clear h5 h6 h7 hb)
    have HB6 := Aside0.mk (show Below w4.heap.size w4 ((w5.alloc (.cells #[.int .u64 n, .int .i64 p, .int .u64 q, .int .i64 sq, .slice B5 m.length d5] 32)).alloc (.cells #[.slice B6 con.length d6, .slice B7 ord.length d7, .int .i64 nx, .int .u64 hn, .int .i64 hp] 53)) from (HB5.out.alloc HB5.out.size _).alloc (by have := HB5.out.size; simp only [World.size_alloc]; omega) _)
    have HX6 := Aside0.mk (blk_alloc (blk_new w5 (.cells #[.int .u64 n, .int .i64 p, .int .u64 q, .int .i64 sq, .slice B5 m.length d5] 32)) (.cells #[.slice B6 con.length d6, .slice B7 ord.length d7, .int .i64 nx, .int .u64 hn, .int .i64 hp] 53))
    have HY6 := Aside0.mk (show ((w5.alloc (.cells #[.int .u64 n, .int .i64 p, .int .u64 q, .int .i64 sq, .slice B5 m.length d5] 32)).alloc (.cells #[.slice B6 con.length d6, .slice B7 ord.length d7, .int .i64 nx, .int .u64 hn, .int .i64 hp] 53)).heap[w5.heap.size + 1]? = some (.cells #[.slice B6 con.length d6, .slice B7 ord.length d7, .int .i64 nx, .int .u64 hn, .int .i64 hp] 53 (0, 0)) from by have h7 := blk_new (w5.alloc (.cells #[.int .u64 n, .int .i64 p, .int .u64 q, .int .i64 sq, .slice B5 m.length d5] 32)) (.cells #[.slice B6 con.length d6, .slice B7 ord.length d7, .int .i64 nx, .int .u64 hn, .int .i64 hp] 53); rwa [World.size_alloc] at h7)
    have h56 := Kd.V_alloc (Kd.V_alloc H5.out (.cells #[.int .u64 n, .int .i64 p, .int .u64 q, .int .i64 sq, .slice B5 m.length d5] 32)) (.cells #[.slice B6 con.length d6, .slice B7 ord.length d7, .int .i64 nx, .int .u64 hn, .int .i64 hp] 53)
    have h66 := Kd.V_alloc (Kd.V_alloc H6.out (.cells #[.int .u64 n, .int .i64 p, .int .u64 q, .int .i64 sq, .slice B5 m.length d5] 32)) (.cells #[.slice B6 con.length d6, .slice B7 ord.length d7, .int .i64 nx, .int .u64 hn, .int .i64 hp] 53)
    have h76 := Kd.V_alloc (Kd.V_alloc H7.out (.cells #[.int .u64 n, .int .i64 p, .int .u64 q, .int .i64 sq, .slice B5 m.length d5] 32)) (.cells #[.slice B6 con.length d6, .slice B7 ord.length d7, .int .i64 nx, .int .u64 hn, .int .i64 hp] 53)
    clear H5 H6 H7
    generalize (w5.alloc (.cells #[.int .u64 n, .int .i64 p, .int .u64 q, .int .i64 sq, .slice B5 m.length d5] 32)).alloc (.cells #[.slice B6 con.length d6, .slice B7 ord.length d7, .int .i64 nx, .int .u64 hn, .int .i64 hp] 53) = w6 at HB6 HX6 HY6 h56 h66 h76 ⊢
    generalize w5.heap.size = by_ at HX6 HY6 ⊢
    obtain ⟨hx0, hx1, hx2, hx3, hx4, -, -, -, -, -, hxl⟩ := blk5 (blk_below HX4.out HB6.out)
    obtain ⟨hy0, hy1, hy2, hy3, hy4, -, -, -, -, -, hyl⟩ := blk5 (blk_below HY4.out HB6.out)
    obtain ⟨hz0, hz1, hz2, hz3, hz4, -, -, -, -, -, hzl⟩ := blk5 HX6.out
    obtain ⟨hw0, hw1, hw2, hw3, hw4, -, -, -, -, -, hwl⟩ := blk5 HY6.out
    obtain ⟨-, a1, a2⟩ := Kd.R_reads' (Kd.R_below H54.out HB6.out)
    obtain ⟨-, a3, a4⟩ := Kd.R_reads' (Kd.R_below H64.out HB6.out)
    obtain ⟨-, a5, a6⟩ := Kd.R_reads' (Kd.R_below H74.out HB6.out)
    obtain ⟨-, b1, b2⟩ := Kd.V_reads' h56
    obtain ⟨-, b3, b4⟩ := Kd.V_reads' h66
    obtain ⟨-, b5, b6⟩ := Kd.V_reads' h76
    have hcv1 := Kd.C_string (P := Try.prog) (c := c5) Try.underlying30 Try.underlying5 Try.underlying9 a2
    have hcv2 := Kd.C_string (P := Try.prog) (c := d5) Try.underlying30 Try.underlying5 Try.underlying9 b2
    have HAL := Aside0.mk (folkmootref15_Alike.calls k3 A6 c6 con A7 c7 ord nx hn hp B6 d6 con B7 d7 ord nx hn hp true w6 a4 a3 a6 a5 b4 b3 b6 b5 HA.out)
    have HBW := Aside0.mk (HB4.out.trans (HB6.out.mono HB4.out.size))
    clear HX4 HY4 HB4 H54 H64 H74 HX6 HY6 h56 h66 h76 a1 a2 a3 a4 a5 a6 b1 b2 b3 b4 b5 b6 HB6 HB5
    rcases HK.out with rfl | rfl | rfl
    all_goals clear HK
    all_goals go_wp2_with (go_at_call 48; refine HAL.out.mono ?_; rintro e w7 ⟨rfl, hb⟩; have HB7 := Aside0.mk (HBW.out.trans (hb.mono HBW.out.size)); clear hb)
    all_goals go_ret
    all_goals exact ⟨rfl, HB7.out⟩
end Go.Proofs.Ytioooiflpabngaa.PAll
end
section
namespace Go.Proofs.Ytioooiflpabngaa
theorem head_signs : Try.prog.initOrder.toList = [104, 97, 114, 110, 101, 115, 115, 32, 98, 100, 54, 52, 55, 100, 48, 52, 56, 99, 56, 57, 55, 50, 49, 57, 98, 52, 100, 49, 52, 51, 55, 98, 57, 48, 102, 102, 48, 56, 49, 50, 49, 53, 100, 52, 49, 53, 51, 54, 99, 100, 49, 54, 52, 54, 49, 100, 52, 97, 49, 97, 54, 54, 102, 52, 101, 56, 53, 55, 97, 101, 50, 55, 32, 99, 117, 116, 32, 97, 116, 32, 102, 111, 108, 107, 109, 111, 111, 116, 47, 102, 111, 108, 107, 109, 111, 111, 116, 108, 97, 119, 49, 53, 46, 67, 111, 110, 116, 101, 110, 116, 70, 105, 110, 100, 115, 32, 102, 111, 108, 107, 109, 111, 111, 116, 47, 102, 111, 108, 107, 109, 111, 111, 116, 108, 97, 119, 49, 53, 46, 67, 111, 110, 116, 101, 110, 116, 75, 101, 101, 112, 115, 32, 102, 111, 108, 107, 109, 111, 111, 116, 47, 102, 111, 108, 107, 109, 111, 111, 116, 108, 97, 119, 49, 53, 46, 67, 111, 110, 116, 101, 110, 116, 77, 101, 114, 103, 101, 115, 32, 102, 111, 108, 107, 109, 111, 111, 116, 47, 102, 111, 108, 107, 109, 111, 111, 116, 108, 97, 119, 49, 53, 46, 67, 111, 110, 116, 101, 110, 116, 79, 114, 100, 101, 114, 32, 102, 111, 108, 107, 109, 111, 111, 116, 47, 102, 111, 108, 107, 109, 111, 111, 116, 108, 97, 119, 48, 53, 46, 76, 97, 98, 101, 108, 75, 101, 101, 112, 115, 32, 102, 111, 108, 107, 109, 111, 111, 116, 47, 102, 111, 108, 107, 109, 111, 111, 116, 108, 97, 119, 48, 53, 46, 76, 97, 98, 101, 108, 80, 97, 114, 116, 115, 32, 102, 111, 108, 107, 109, 111, 111, 116, 47, 102, 111, 108, 107, 109, 111, 111, 116, 108, 97, 119, 48, 53, 46, 76, 97, 98, 101, 108, 83, 111, 114, 116, 115, 32, 102, 111, 108, 107, 109, 111, 111, 116, 47, 102, 111, 108, 107, 109, 111, 111, 116, 108, 97, 119, 48, 53, 46, 76, 97, 98, 101, 108, 66, 101, 104, 105, 110, 100, 32, 102, 111, 108, 107, 109, 111, 111, 116, 47, 102, 111, 108, 107, 109, 111, 111, 116, 108, 97, 119, 48, 53, 46, 76, 97, 98, 101, 108, 79, 114, 100, 101, 114, 32, 102, 111, 108, 107, 109, 111, 111, 116, 47, 102, 111, 108, 107, 109, 111, 111, 116, 108, 97, 119, 49, 53, 46, 67, 111, 110, 116, 101, 110, 116, 65, 112, 97, 114, 116, 32, 102, 111, 108, 107, 109, 111, 111, 116, 47, 102, 111, 108, 107, 109, 111, 111, 116, 108, 97, 119, 49, 53, 46, 67, 111, 110, 116, 101, 110, 116, 79, 110, 101, 32, 102, 111, 108, 107, 109, 111, 111, 116, 47, 102, 111, 108, 107, 109, 111, 111, 116, 108, 97, 119, 49, 53, 46, 67, 111, 110, 116, 101, 110, 116, 82, 101, 97, 100, 115, 32, 102, 111, 108, 107, 109, 111, 111, 116, 47, 102, 111, 108, 107, 109, 111, 111, 116, 108, 97, 119, 49, 53, 46, 67, 111, 110, 116, 101, 110, 116, 65, 108, 108, 32, 102, 111, 108, 107, 109, 111, 111, 116, 47, 102, 111, 108, 107, 109, 111, 111, 116, 108, 97, 119, 49, 54, 46, 69, 120, 99, 104, 97, 110, 103, 101, 80, 108, 97, 121, 115, 32, 102, 111, 108, 107, 109, 111, 111, 116, 47, 102, 111, 108, 107, 109, 111, 111, 116, 108, 97, 119, 49, 54, 46, 69, 120, 99, 104, 97, 110, 103, 101, 84, 117, 114, 110, 101, 100, 32, 102, 111, 108, 107, 109, 111, 111, 116, 47, 102, 111, 108, 107, 109, 111, 111, 116, 108, 97, 119, 49, 54, 46, 69, 120, 99, 104, 97, 110, 103, 101, 70, 117, 108, 108, 32, 102, 111, 108, 107, 109, 111, 111, 116, 47, 102, 111, 108, 107, 109, 111, 111, 116, 108, 97, 119, 49, 54, 46, 69, 120, 99, 104, 97, 110, 103, 101, 75, 101, 101, 112, 115, 32, 102, 111, 108, 107, 109, 111, 111, 116, 47, 102, 111, 108, 107, 109, 111, 111, 116, 108, 97, 119, 49, 54, 46, 69, 120, 99, 104, 97, 110, 103, 101, 79, 110, 101, 32, 102, 111, 108, 107, 109, 111, 111, 116, 47, 102, 111, 108, 107, 109, 111, 111, 116, 108, 97, 119, 49, 54, 46, 69, 120, 99, 104, 97, 110, 103, 101, 77, 111, 114, 101].map Char.ofNat := by
  have h : Try.prog.initOrder = String.ofList ([104, 97, 114, 110, 101, 115, 115, 32, 98, 100, 54, 52, 55, 100, 48, 52, 56, 99, 56, 57, 55, 50, 49, 57, 98, 52, 100, 49, 52, 51, 55, 98, 57, 48, 102, 102, 48, 56, 49, 50, 49, 53, 100, 52, 49, 53, 51, 54, 99, 100, 49, 54, 52, 54, 49, 100, 52, 97, 49, 97, 54, 54, 102, 52, 101, 56, 53, 55, 97, 101, 50, 55, 32, 99, 117, 116, 32, 97, 116, 32, 102, 111, 108, 107, 109, 111, 111, 116, 47, 102, 111, 108, 107, 109, 111, 111, 116, 108, 97, 119, 49, 53, 46, 67, 111, 110, 116, 101, 110, 116, 70, 105, 110, 100, 115, 32, 102, 111, 108, 107, 109, 111, 111, 116, 47, 102, 111, 108, 107, 109, 111, 111, 116, 108, 97, 119, 49, 53, 46, 67, 111, 110, 116, 101, 110, 116, 75, 101, 101, 112, 115, 32, 102, 111, 108, 107, 109, 111, 111, 116, 47, 102, 111, 108, 107, 109, 111, 111, 116, 108, 97, 119, 49, 53, 46, 67, 111, 110, 116, 101, 110, 116, 77, 101, 114, 103, 101, 115, 32, 102, 111, 108, 107, 109, 111, 111, 116, 47, 102, 111, 108, 107, 109, 111, 111, 116, 108, 97, 119, 49, 53, 46, 67, 111, 110, 116, 101, 110, 116, 79, 114, 100, 101, 114, 32, 102, 111, 108, 107, 109, 111, 111, 116, 47, 102, 111, 108, 107, 109, 111, 111, 116, 108, 97, 119, 48, 53, 46, 76, 97, 98, 101, 108, 75, 101, 101, 112, 115, 32, 102, 111, 108, 107, 109, 111, 111, 116, 47, 102, 111, 108, 107, 109, 111, 111, 116, 108, 97, 119, 48, 53, 46, 76, 97, 98, 101, 108, 80, 97, 114, 116, 115, 32, 102, 111, 108, 107, 109, 111, 111, 116, 47, 102, 111, 108, 107, 109, 111, 111, 116, 108, 97, 119, 48, 53, 46, 76, 97, 98, 101, 108, 83, 111, 114, 116, 115, 32, 102, 111, 108, 107, 109, 111, 111, 116, 47, 102, 111, 108, 107, 109, 111, 111, 116, 108, 97, 119, 48, 53, 46, 76, 97, 98, 101, 108, 66, 101, 104, 105, 110, 100, 32, 102, 111, 108, 107, 109, 111, 111, 116, 47, 102, 111, 108, 107, 109, 111, 111, 116, 108, 97, 119, 48, 53, 46, 76, 97, 98, 101, 108, 79, 114, 100, 101, 114, 32, 102, 111, 108, 107, 109, 111, 111, 116, 47, 102, 111, 108, 107, 109, 111, 111, 116, 108, 97, 119, 49, 53, 46, 67, 111, 110, 116, 101, 110, 116, 65, 112, 97, 114, 116, 32, 102, 111, 108, 107, 109, 111, 111, 116, 47, 102, 111, 108, 107, 109, 111, 111, 116, 108, 97, 119, 49, 53, 46, 67, 111, 110, 116, 101, 110, 116, 79, 110, 101, 32, 102, 111, 108, 107, 109, 111, 111, 116, 47, 102, 111, 108, 107, 109, 111, 111, 116, 108, 97, 119, 49, 53, 46, 67, 111, 110, 116, 101, 110, 116, 82, 101, 97, 100, 115, 32, 102, 111, 108, 107, 109, 111, 111, 116, 47, 102, 111, 108, 107, 109, 111, 111, 116, 108, 97, 119, 49, 53, 46, 67, 111, 110, 116, 101, 110, 116, 65, 108, 108, 32, 102, 111, 108, 107, 109, 111, 111, 116, 47, 102, 111, 108, 107, 109, 111, 111, 116, 108, 97, 119, 49, 54, 46, 69, 120, 99, 104, 97, 110, 103, 101, 80, 108, 97, 121, 115, 32, 102, 111, 108, 107, 109, 111, 111, 116, 47, 102, 111, 108, 107, 109, 111, 111, 116, 108, 97, 119, 49, 54, 46, 69, 120, 99, 104, 97, 110, 103, 101, 84, 117, 114, 110, 101, 100, 32, 102, 111, 108, 107, 109, 111, 111, 116, 47, 102, 111, 108, 107, 109, 111, 111, 116, 108, 97, 119, 49, 54, 46, 69, 120, 99, 104, 97, 110, 103, 101, 70, 117, 108, 108, 32, 102, 111, 108, 107, 109, 111, 111, 116, 47, 102, 111, 108, 107, 109, 111, 111, 116, 108, 97, 119, 49, 54, 46, 69, 120, 99, 104, 97, 110, 103, 101, 75, 101, 101, 112, 115, 32, 102, 111, 108, 107, 109, 111, 111, 116, 47, 102, 111, 108, 107, 109, 111, 111, 116, 108, 97, 119, 49, 54, 46, 69, 120, 99, 104, 97, 110, 103, 101, 79, 110, 101, 32, 102, 111, 108, 107, 109, 111, 111, 116, 47, 102, 111, 108, 107, 109, 111, 111, 116, 108, 97, 119, 49, 54, 46, 69, 120, 99, 104, 97, 110, 103, 101, 77, 111, 114, 101].map Char.ofNat) := by kernel_rfl
  rw [h, String.toList_ofList]
theorem head_words : wordsSigns ([104, 97, 114, 110, 101, 115, 115, 32, 98, 100, 54, 52, 55, 100, 48, 52, 56, 99, 56, 57, 55, 50, 49, 57, 98, 52, 100, 49, 52, 51, 55, 98, 57, 48, 102, 102, 48, 56, 49, 50, 49, 53, 100, 52, 49, 53, 51, 54, 99, 100, 49, 54, 52, 54, 49, 100, 52, 97, 49, 97, 54, 54, 102, 52, 101, 56, 53, 55, 97, 101, 50, 55, 32, 99, 117, 116, 32, 97, 116, 32, 102, 111, 108, 107, 109, 111, 111, 116, 47, 102, 111, 108, 107, 109, 111, 111, 116, 108, 97, 119, 49, 53, 46, 67, 111, 110, 116, 101, 110, 116, 70, 105, 110, 100, 115, 32, 102, 111, 108, 107, 109, 111, 111, 116, 47, 102, 111, 108, 107, 109, 111, 111, 116, 108, 97, 119, 49, 53, 46, 67, 111, 110, 116, 101, 110, 116, 75, 101, 101, 112, 115, 32, 102, 111, 108, 107, 109, 111, 111, 116, 47, 102, 111, 108, 107, 109, 111, 111, 116, 108, 97, 119, 49, 53, 46, 67, 111, 110, 116, 101, 110, 116, 77, 101, 114, 103, 101, 115, 32, 102, 111, 108, 107, 109, 111, 111, 116, 47, 102, 111, 108, 107, 109, 111, 111, 116, 108, 97, 119, 49, 53, 46, 67, 111, 110, 116, 101, 110, 116, 79, 114, 100, 101, 114, 32, 102, 111, 108, 107, 109, 111, 111, 116, 47, 102, 111, 108, 107, 109, 111, 111, 116, 108, 97, 119, 48, 53, 46, 76, 97, 98, 101, 108, 75, 101, 101, 112, 115, 32, 102, 111, 108, 107, 109, 111, 111, 116, 47, 102, 111, 108, 107, 109, 111, 111, 116, 108, 97, 119, 48, 53, 46, 76, 97, 98, 101, 108, 80, 97, 114, 116, 115, 32, 102, 111, 108, 107, 109, 111, 111, 116, 47, 102, 111, 108, 107, 109, 111, 111, 116, 108, 97, 119, 48, 53, 46, 76, 97, 98, 101, 108, 83, 111, 114, 116, 115, 32, 102, 111, 108, 107, 109, 111, 111, 116, 47, 102, 111, 108, 107, 109, 111, 111, 116, 108, 97, 119, 48, 53, 46, 76, 97, 98, 101, 108, 66, 101, 104, 105, 110, 100, 32, 102, 111, 108, 107, 109, 111, 111, 116, 47, 102, 111, 108, 107, 109, 111, 111, 116, 108, 97, 119, 48, 53, 46, 76, 97, 98, 101, 108, 79, 114, 100, 101, 114, 32, 102, 111, 108, 107, 109, 111, 111, 116, 47, 102, 111, 108, 107, 109, 111, 111, 116, 108, 97, 119, 49, 53, 46, 67, 111, 110, 116, 101, 110, 116, 65, 112, 97, 114, 116, 32, 102, 111, 108, 107, 109, 111, 111, 116, 47, 102, 111, 108, 107, 109, 111, 111, 116, 108, 97, 119, 49, 53, 46, 67, 111, 110, 116, 101, 110, 116, 79, 110, 101, 32, 102, 111, 108, 107, 109, 111, 111, 116, 47, 102, 111, 108, 107, 109, 111, 111, 116, 108, 97, 119, 49, 53, 46, 67, 111, 110, 116, 101, 110, 116, 82, 101, 97, 100, 115, 32, 102, 111, 108, 107, 109, 111, 111, 116, 47, 102, 111, 108, 107, 109, 111, 111, 116, 108, 97, 119, 49, 53, 46, 67, 111, 110, 116, 101, 110, 116, 65, 108, 108, 32, 102, 111, 108, 107, 109, 111, 111, 116, 47, 102, 111, 108, 107, 109, 111, 111, 116, 108, 97, 119, 49, 54, 46, 69, 120, 99, 104, 97, 110, 103, 101, 80, 108, 97, 121, 115, 32, 102, 111, 108, 107, 109, 111, 111, 116, 47, 102, 111, 108, 107, 109, 111, 111, 116, 108, 97, 119, 49, 54, 46, 69, 120, 99, 104, 97, 110, 103, 101, 84, 117, 114, 110, 101, 100, 32, 102, 111, 108, 107, 109, 111, 111, 116, 47, 102, 111, 108, 107, 109, 111, 111, 116, 108, 97, 119, 49, 54, 46, 69, 120, 99, 104, 97, 110, 103, 101, 70, 117, 108, 108, 32, 102, 111, 108, 107, 109, 111, 111, 116, 47, 102, 111, 108, 107, 109, 111, 111, 116, 108, 97, 119, 49, 54, 46, 69, 120, 99, 104, 97, 110, 103, 101, 75, 101, 101, 112, 115, 32, 102, 111, 108, 107, 109, 111, 111, 116, 47, 102, 111, 108, 107, 109, 111, 111, 116, 108, 97, 119, 49, 54, 46, 69, 120, 99, 104, 97, 110, 103, 101, 79, 110, 101, 32, 102, 111, 108, 107, 109, 111, 111, 116, 47, 102, 111, 108, 107, 109, 111, 111, 116, 108, 97, 119, 49, 54, 46, 69, 120, 99, 104, 97, 110, 103, 101, 77, 111, 114, 101].map Char.ofNat) = [[104, 97, 114, 110, 101, 115, 115], [98, 100, 54, 52, 55, 100, 48, 52, 56, 99, 56, 57, 55, 50, 49, 57, 98, 52, 100, 49, 52, 51, 55, 98, 57, 48, 102, 102, 48, 56, 49, 50, 49, 53, 100, 52, 49, 53, 51, 54, 99, 100, 49, 54, 52, 54, 49, 100, 52, 97, 49, 97, 54, 54, 102, 52, 101, 56, 53, 55, 97, 101, 50, 55], [99, 117, 116], [97, 116], [102, 111, 108, 107, 109, 111, 111, 116, 47, 102, 111, 108, 107, 109, 111, 111, 116, 108, 97, 119, 49, 53, 46, 67, 111, 110, 116, 101, 110, 116, 70, 105, 110, 100, 115], [102, 111, 108, 107, 109, 111, 111, 116, 47, 102, 111, 108, 107, 109, 111, 111, 116, 108, 97, 119, 49, 53, 46, 67, 111, 110, 116, 101, 110, 116, 75, 101, 101, 112, 115], [102, 111, 108, 107, 109, 111, 111, 116, 47, 102, 111, 108, 107, 109, 111, 111, 116, 108, 97, 119, 49, 53, 46, 67, 111, 110, 116, 101, 110, 116, 77, 101, 114, 103, 101, 115], [102, 111, 108, 107, 109, 111, 111, 116, 47, 102, 111, 108, 107, 109, 111, 111, 116, 108, 97, 119, 49, 53, 46, 67, 111, 110, 116, 101, 110, 116, 79, 114, 100, 101, 114], [102, 111, 108, 107, 109, 111, 111, 116, 47, 102, 111, 108, 107, 109, 111, 111, 116, 108, 97, 119, 48, 53, 46, 76, 97, 98, 101, 108, 75, 101, 101, 112, 115], [102, 111, 108, 107, 109, 111, 111, 116, 47, 102, 111, 108, 107, 109, 111, 111, 116, 108, 97, 119, 48, 53, 46, 76, 97, 98, 101, 108, 80, 97, 114, 116, 115], [102, 111, 108, 107, 109, 111, 111, 116, 47, 102, 111, 108, 107, 109, 111, 111, 116, 108, 97, 119, 48, 53, 46, 76, 97, 98, 101, 108, 83, 111, 114, 116, 115], [102, 111, 108, 107, 109, 111, 111, 116, 47, 102, 111, 108, 107, 109, 111, 111, 116, 108, 97, 119, 48, 53, 46, 76, 97, 98, 101, 108, 66, 101, 104, 105, 110, 100], [102, 111, 108, 107, 109, 111, 111, 116, 47, 102, 111, 108, 107, 109, 111, 111, 116, 108, 97, 119, 48, 53, 46, 76, 97, 98, 101, 108, 79, 114, 100, 101, 114], [102, 111, 108, 107, 109, 111, 111, 116, 47, 102, 111, 108, 107, 109, 111, 111, 116, 108, 97, 119, 49, 53, 46, 67, 111, 110, 116, 101, 110, 116, 65, 112, 97, 114, 116], [102, 111, 108, 107, 109, 111, 111, 116, 47, 102, 111, 108, 107, 109, 111, 111, 116, 108, 97, 119, 49, 53, 46, 67, 111, 110, 116, 101, 110, 116, 79, 110, 101], [102, 111, 108, 107, 109, 111, 111, 116, 47, 102, 111, 108, 107, 109, 111, 111, 116, 108, 97, 119, 49, 53, 46, 67, 111, 110, 116, 101, 110, 116, 82, 101, 97, 100, 115], [102, 111, 108, 107, 109, 111, 111, 116, 47, 102, 111, 108, 107, 109, 111, 111, 116, 108, 97, 119, 49, 53, 46, 67, 111, 110, 116, 101, 110, 116, 65, 108, 108], [102, 111, 108, 107, 109, 111, 111, 116, 47, 102, 111, 108, 107, 109, 111, 111, 116, 108, 97, 119, 49, 54, 46, 69, 120, 99, 104, 97, 110, 103, 101, 80, 108, 97, 121, 115], [102, 111, 108, 107, 109, 111, 111, 116, 47, 102, 111, 108, 107, 109, 111, 111, 116, 108, 97, 119, 49, 54, 46, 69, 120, 99, 104, 97, 110, 103, 101, 84, 117, 114, 110, 101, 100], [102, 111, 108, 107, 109, 111, 111, 116, 47, 102, 111, 108, 107, 109, 111, 111, 116, 108, 97, 119, 49, 54, 46, 69, 120, 99, 104, 97, 110, 103, 101, 70, 117, 108, 108], [102, 111, 108, 107, 109, 111, 111, 116, 47, 102, 111, 108, 107, 109, 111, 111, 116, 108, 97, 119, 49, 54, 46, 69, 120, 99, 104, 97, 110, 103, 101, 75, 101, 101, 112, 115], [102, 111, 108, 107, 109, 111, 111, 116, 47, 102, 111, 108, 107, 109, 111, 111, 116, 108, 97, 119, 49, 54, 46, 69, 120, 99, 104, 97, 110, 103, 101, 79, 110, 101], [102, 111, 108, 107, 109, 111, 111, 116, 47, 102, 111, 108, 107, 109, 111, 111, 116, 108, 97, 119, 49, 54, 46, 69, 120, 99, 104, 97, 110, 103, 101, 77, 111, 114, 101]].map (List.map Char.ofNat) := by kernel_rfl
theorem head_behind : ∃ rest, behindMainWord (wordsSigns Try.prog.initOrder.toList) = [99, 117, 116].map Char.ofNat :: rest := by
  rw [head_signs, head_words]
  exact ⟨[[99, 117, 116], [97, 116], [102, 111, 108, 107, 109, 111, 111, 116, 47, 102, 111, 108, 107, 109, 111, 111, 116, 108, 97, 119, 49, 53, 46, 67, 111, 110, 116, 101, 110, 116, 70, 105, 110, 100, 115], [102, 111, 108, 107, 109, 111, 111, 116, 47, 102, 111, 108, 107, 109, 111, 111, 116, 108, 97, 119, 49, 53, 46, 67, 111, 110, 116, 101, 110, 116, 75, 101, 101, 112, 115], [102, 111, 108, 107, 109, 111, 111, 116, 47, 102, 111, 108, 107, 109, 111, 111, 116, 108, 97, 119, 49, 53, 46, 67, 111, 110, 116, 101, 110, 116, 77, 101, 114, 103, 101, 115], [102, 111, 108, 107, 109, 111, 111, 116, 47, 102, 111, 108, 107, 109, 111, 111, 116, 108, 97, 119, 49, 53, 46, 67, 111, 110, 116, 101, 110, 116, 79, 114, 100, 101, 114], [102, 111, 108, 107, 109, 111, 111, 116, 47, 102, 111, 108, 107, 109, 111, 111, 116, 108, 97, 119, 48, 53, 46, 76, 97, 98, 101, 108, 75, 101, 101, 112, 115], [102, 111, 108, 107, 109, 111, 111, 116, 47, 102, 111, 108, 107, 109, 111, 111, 116, 108, 97, 119, 48, 53, 46, 76, 97, 98, 101, 108, 80, 97, 114, 116, 115], [102, 111, 108, 107, 109, 111, 111, 116, 47, 102, 111, 108, 107, 109, 111, 111, 116, 108, 97, 119, 48, 53, 46, 76, 97, 98, 101, 108, 83, 111, 114, 116, 115], [102, 111, 108, 107, 109, 111, 111, 116, 47, 102, 111, 108, 107, 109, 111, 111, 116, 108, 97, 119, 48, 53, 46, 76, 97, 98, 101, 108, 66, 101, 104, 105, 110, 100], [102, 111, 108, 107, 109, 111, 111, 116, 47, 102, 111, 108, 107, 109, 111, 111, 116, 108, 97, 119, 48, 53, 46, 76, 97, 98, 101, 108, 79, 114, 100, 101, 114], [102, 111, 108, 107, 109, 111, 111, 116, 47, 102, 111, 108, 107, 109, 111, 111, 116, 108, 97, 119, 49, 53, 46, 67, 111, 110, 116, 101, 110, 116, 65, 112, 97, 114, 116], [102, 111, 108, 107, 109, 111, 111, 116, 47, 102, 111, 108, 107, 109, 111, 111, 116, 108, 97, 119, 49, 53, 46, 67, 111, 110, 116, 101, 110, 116, 79, 110, 101], [102, 111, 108, 107, 109, 111, 111, 116, 47, 102, 111, 108, 107, 109, 111, 111, 116, 108, 97, 119, 49, 53, 46, 67, 111, 110, 116, 101, 110, 116, 82, 101, 97, 100, 115], [102, 111, 108, 107, 109, 111, 111, 116, 47, 102, 111, 108, 107, 109, 111, 111, 116, 108, 97, 119, 49, 53, 46, 67, 111, 110, 116, 101, 110, 116, 65, 108, 108], [102, 111, 108, 107, 109, 111, 111, 116, 47, 102, 111, 108, 107, 109, 111, 111, 116, 108, 97, 119, 49, 54, 46, 69, 120, 99, 104, 97, 110, 103, 101, 80, 108, 97, 121, 115], [102, 111, 108, 107, 109, 111, 111, 116, 47, 102, 111, 108, 107, 109, 111, 111, 116, 108, 97, 119, 49, 54, 46, 69, 120, 99, 104, 97, 110, 103, 101, 84, 117, 114, 110, 101, 100], [102, 111, 108, 107, 109, 111, 111, 116, 47, 102, 111, 108, 107, 109, 111, 111, 116, 108, 97, 119, 49, 54, 46, 69, 120, 99, 104, 97, 110, 103, 101, 70, 117, 108, 108], [102, 111, 108, 107, 109, 111, 111, 116, 47, 102, 111, 108, 107, 109, 111, 111, 116, 108, 97, 119, 49, 54, 46, 69, 120, 99, 104, 97, 110, 103, 101, 75, 101, 101, 112, 115], [102, 111, 108, 107, 109, 111, 111, 116, 47, 102, 111, 108, 107, 109, 111, 111, 116, 108, 97, 119, 49, 54, 46, 69, 120, 99, 104, 97, 110, 103, 101, 79, 110, 101], [102, 111, 108, 107, 109, 111, 111, 116, 47, 102, 111, 108, 107, 109, 111, 111, 116, 108, 97, 119, 49, 54, 46, 69, 120, 99, 104, 97, 110, 103, 101, 77, 111, 114, 101]].tail.map (List.map Char.ofNat), by kernel_rfl⟩
theorem cut_gc : (([99, 117, 116].map Char.ofNat) == "gc".toList) = false := by kernel_rfl
theorem cut_spec : (([99, 117, 116].map Char.ofNat) == "spec".toList) = false := by kernel_rfl
theorem cut_carried : (([99, 117, 116].map Char.ofNat) == "carried".toList) = false := by kernel_rfl
theorem cut_cut : (([99, 117, 116].map Char.ofNat) == "cut".toList) = true := by kernel_rfl
theorem cut_some (rest : List (List Char)) : ((([99, 117, 116].map Char.ofNat) :: rest).head? == some "cut".toList) = true := cut_cut
theorem cut_strip (rest : List (List Char)) : stripLifts liftWords (([99, 117, 116].map Char.ofNat) :: rest) = ([], ([99, 117, 116].map Char.ofNat) :: rest) := by
  simp only [liftWords, stripLifts]
  rfl
theorem make_of {P : Program} {rest : List (List Char)} (h : behindMainWord (wordsSigns P.initOrder.toList) = [99, 117, 116].map Char.ofNat :: rest) : P.make = some .cut := by
  unfold Program.make
  rw [h]
  simp only [cut_gc, cut_spec, cut_cut, Bool.or_false, Bool.true_or, Bool.false_eq_true, if_false, if_true]
theorem lifts_of {P : Program} {rest : List (List Char)} (h : behindMainWord (wordsSigns P.initOrder.toList) = [99, 117, 116].map Char.ofNat :: rest) : P.liftsFinal = false := by
  unfold Program.liftsFinal Program.headLifts
  rw [h]
  simp only [cut_strip, List.head?_cons]
  show ((([99, 117, 116].map Char.ofNat) == "carried".toList) && _ || _) = false
  rw [cut_carried]
  kernel_rfl
theorem enter_of {P : Program} {rest : List (List Char)} (h : behindMainWord (wordsSigns P.initOrder.toList) = [99, 117, 116].map Char.ofNat :: rest) (h1 : P.laysLater = false) (h2 : P.bearsReflect = false) (h3 : P.doorFits [] = true) : P.mayEnter = true := by
  unfold Program.mayEnter
  rw [h]
  simp only [cut_strip, cut_some, cut_gc, cut_spec, cut_carried, h1, h2, h3, Bool.not_false, Bool.or_true, Bool.and_true, Bool.or_false, Bool.false_and, List.contains_nil]
theorem head_make : Try.prog.make = some .cut := head_behind.elim fun _ h => make_of h
theorem head_lifts : Try.prog.liftsFinal = false := head_behind.elim fun _ h => lifts_of h
theorem head_enter : Try.prog.mayEnter = true := head_behind.elim fun _ h => enter_of h (by kernel_rfl) (by kernel_rfl) (by kernel_rfl)
end Go.Proofs.Ytioooiflpabngaa
end
section
namespace Go.Proofs.Ytioooiflpabngaa.contentReads
open Go.ChangeShapes Go.WideShapes Go.ChangeAt Go.RowKit Go.Proofs.Ytioooiflpabngaa.PAll
set_option linter.unusedVariables false
theorem own : ownKnob Try.prog.godebug = none := by kernel_rfl
theorem laidOut : laidOutB Try.prog = true := by kernel_rfl
set_option maxRecDepth 100000 in
theorem lifted (os : Os) (started : os.Started) (H : Type) (enc : TypeId × Value → H) :
    ReturnsInHanded {} Try.checked os 14 .any (Rows.contentReadsSpec.pre6 enc Try.prog Try.f14 Rows.contentReadsRow.domain false) (Rows.contentReadsSpec.post enc Try.prog Try.f14 false true false false) := by
  refine returnsInHanded_of_change_sized (C := Try.checked) own started (by kernel_rfl) Try.func14
    (ChangeSpec.witness6 (enc := enc) (C := Try.checked) false ⟨#[], #[.slice none 0 0], []⟩ 8 (by kernel_rfl) (by kernel_rfl) (by kernel_rfl) (by kernel_rfl)) ?_
  intro W base args ds gs before hval0 hW hcnd hsz0 _
  have hsz : (DataW.weightsEach Try.prog (Try.f14.params.toList ++ Rows.contentReadsSpec.plain.varTypes Try.prog) (ds ++ gs)).all (· ≤ reachBytes) = true := hsz0
  have hval : ∀ (j : Nat) t v, Try.f14.params[j]? = some t → args[j]? = some v → Value.okWide Try.prog W .any base t v := hval0
  have hW' := hW
  obtain ⟨p, q, hA0, hV, rfl, hfz, hnd⟩ := hW
  have hA : DataW.TrodAll enc Try.prog W 0 (fun _ => true) true Try.f14.params.toList args.toList ds p := hA0
  rw [Try.params14] at hA hval hsz
  obtain ⟨v0, vs0, d0, ds0, p0, q0, hargs, rfl, rfl, h0, r0⟩ := trodAll_cons hA
  obtain ⟨rfl, rfl, rfl⟩ := trodAll_nil r0
  obtain rfl : args = #[v0] := by cases args; simp_all
  obtain ⟨rfl, rfl⟩ := trodVars_none hV
  have z0 : ∀ n ∈ d0.weights Try.prog 30, n ≤ reachBytes := fun n hn => of_decide_eq_true (List.all_eq_true.1 hsz _ (DataW.weights_mem_each (j := 0) (t := 30) rfl rfl n hn))
  have k0 := h0
  have lt0 : ∀ x ∈ p0, x.block < W.heap.size := by obtain ⟨m, hm⟩ := k0; exact DataW.trod_lt m _ _ _ hm
  obtain ⟨a0, len0, cap0, rfl⟩ := okWide_slice Try.underlying30 (hval 0 30 v0 rfl rfl)
  obtain ⟨l0, hK0, ok0⟩ := arg_trod (opensB (E := 5)) h0 z0
  obtain ⟨rfl, hc0, hr0⟩ := arg_slice hK0
  clear hA0 hval0 hsz0 hsz
  refine (lawReads.calls _ _ l0 W hr0 hc0 (rightB_byt ok0)).mono fun e W' ⟨he, bel⟩ => ?_
  subst he
  exact ⟨_, rfl, _, _, _, [], _, [], hW', trodAll_mk1 (shut_bool Try.underlying4 _), (trodAll_cons_mk (Below.trod laidOut (by kernel_rfl) (of_decide_eq_true (by kernel_rfl)) k0 bel lt0) trodAll_mk0), rfl, bel.frame _, fun h => by cases h⟩
theorem closed : joinedFacts Try.prog 14 Try.f14 Rows.contentReadsSpec Rows.contentReadsRow = true := by
  unfold joinedFacts
  rw [head_enter, head_lifts, head_make]
  kernel_rfl
theorem over : Rows.contentReadsRow.holds Try.pinned (OpenSpec.ofChange Rows.contentReadsSpec) :=
  OpenClaim.holds_of_wide 14 Try.f14 rfl rfl rfl rfl rfl rfl rfl ⟨rfl, rfl, rfl, rfl, rfl⟩ rfl rfl rfl rfl rfl (by kernel_rfl) Try.func14 closed
    (of_decide_eq_true (by kernel_rfl)) (by unfold Func.isWrapper; first | (rw [if_pos (by decide +kernel)]; kernel_rfl) | (rw [if_neg (by decide +kernel)]; exact ⟨rfl, rfl⟩))
    (fun os started H enc _ => lifted os started H enc)
theorem proved : Rows.ContentReadsSaid := over
end Go.Proofs.Ytioooiflpabngaa.contentReads
end
