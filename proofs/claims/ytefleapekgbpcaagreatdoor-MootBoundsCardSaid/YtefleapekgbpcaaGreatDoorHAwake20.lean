/- folkmootlaw20.awake answers true: its run, the forty calm ticks by their records. -/
import Derived.Test.YtefleapekgbpcaaGreatDoorHRecM1
import Derived.Test.YtefleapekgbpcaaGreatDoorHRecM2
import Derived.Test.YtefleapekgbpcaaGreatDoorHRecM3
import Derived.Test.YtefleapekgbpcaaGreatDoorHRecM4
namespace Go.Proofs.YtefleapekgbpcaaGreatDoor.Aexd
open Go Go.Aex Go.RowKit
set_option maxRecDepth 1000000
def recs20 : List Rc := [Rec.rec68, Rec.rec1256, Rec.rec2677, Rec.rec4150, Rec.rec5118, Rec.rec6542, Rec.rec7635, Rec.rec8878, Rec.rec9619, Rec.rec10360, Rec.rec11101, Rec.rec11842, Rec.rec12583, Rec.rec13324, Rec.rec14065, Rec.rec14806, Rec.rec15589, Rec.rec16324, Rec.rec17065, Rec.rec17806, Rec.rec18547, Rec.rec19288, Rec.rec20029, Rec.rec20770, Rec.rec21511, Rec.rec22252, Rec.rec22993, Rec.rec23734, Rec.rec24475, Rec.rec25216, Rec.rec25957, Rec.rec26698, Rec.rec27481, Rec.rec28216, Rec.rec28957, Rec.rec29698, Rec.rec30439, Rec.rec31180, Rec.rec31921, Rec.rec32662]
noncomputable def E20 : Env := envS nTy nFn tyT fnT fun g => match Nat.beq g 149 with
  | true => some (pickM recs20)
  | false => E0.sum g
theorem tab20 : Tab E20 Tryz.prog := tab_ofS tys fns (by kernel_rfl)
theorem rec_ok {w0 : World} (hT : TabAt 2 Lib.deBruijn32tab w0) (hs : 2 < w0.heap.size) {r : Rc} (h : recOk r (q_callA E0 1000000 false 149 r.args (startS r)) = true) : SumOk Tryz.prog w0.heap.size w0 149 (recM r) :=
  recM_ok (f := 999999) tab (sums hT hs) (by rw [← q_callA_eq]; exact h)
theorem sums20 {w0 : World} (hT : TabAt 2 Lib.deBruijn32tab w0) (hs : 2 < w0.heap.size) : ∀ g m, E20.sum g = some m → SumOk Tryz.prog w0.heap.size w0 g m := by
  intro g m h
  simp only [E20, envS] at h
  cases e1 : Nat.beq g 149 with
  | true =>
    rw [e1] at h
    cases h
    obtain rfl := beq_true e1
    refine pickM_ok fun r hr => ?_
    unfold recs20 at hr
    rcases List.mem_cons.1 hr with rfl | hr
    · exact rec_ok hT hs Rec.rec68_ok
    rcases List.mem_cons.1 hr with rfl | hr
    · exact rec_ok hT hs Rec.rec1256_ok
    rcases List.mem_cons.1 hr with rfl | hr
    · exact rec_ok hT hs Rec.rec2677_ok
    rcases List.mem_cons.1 hr with rfl | hr
    · exact rec_ok hT hs Rec.rec4150_ok
    rcases List.mem_cons.1 hr with rfl | hr
    · exact rec_ok hT hs Rec.rec5118_ok
    rcases List.mem_cons.1 hr with rfl | hr
    · exact rec_ok hT hs Rec.rec6542_ok
    rcases List.mem_cons.1 hr with rfl | hr
    · exact rec_ok hT hs Rec.rec7635_ok
    rcases List.mem_cons.1 hr with rfl | hr
    · exact rec_ok hT hs Rec.rec8878_ok
    rcases List.mem_cons.1 hr with rfl | hr
    · exact rec_ok hT hs Rec.rec9619_ok
    rcases List.mem_cons.1 hr with rfl | hr
    · exact rec_ok hT hs Rec.rec10360_ok
    rcases List.mem_cons.1 hr with rfl | hr
    · exact rec_ok hT hs Rec.rec11101_ok
    rcases List.mem_cons.1 hr with rfl | hr
    · exact rec_ok hT hs Rec.rec11842_ok
    rcases List.mem_cons.1 hr with rfl | hr
    · exact rec_ok hT hs Rec.rec12583_ok
    rcases List.mem_cons.1 hr with rfl | hr
    · exact rec_ok hT hs Rec.rec13324_ok
    rcases List.mem_cons.1 hr with rfl | hr
    · exact rec_ok hT hs Rec.rec14065_ok
    rcases List.mem_cons.1 hr with rfl | hr
    · exact rec_ok hT hs Rec.rec14806_ok
    rcases List.mem_cons.1 hr with rfl | hr
    · exact rec_ok hT hs Rec.rec15589_ok
    rcases List.mem_cons.1 hr with rfl | hr
    · exact rec_ok hT hs Rec.rec16324_ok
    rcases List.mem_cons.1 hr with rfl | hr
    · exact rec_ok hT hs Rec.rec17065_ok
    rcases List.mem_cons.1 hr with rfl | hr
    · exact rec_ok hT hs Rec.rec17806_ok
    rcases List.mem_cons.1 hr with rfl | hr
    · exact rec_ok hT hs Rec.rec18547_ok
    rcases List.mem_cons.1 hr with rfl | hr
    · exact rec_ok hT hs Rec.rec19288_ok
    rcases List.mem_cons.1 hr with rfl | hr
    · exact rec_ok hT hs Rec.rec20029_ok
    rcases List.mem_cons.1 hr with rfl | hr
    · exact rec_ok hT hs Rec.rec20770_ok
    rcases List.mem_cons.1 hr with rfl | hr
    · exact rec_ok hT hs Rec.rec21511_ok
    rcases List.mem_cons.1 hr with rfl | hr
    · exact rec_ok hT hs Rec.rec22252_ok
    rcases List.mem_cons.1 hr with rfl | hr
    · exact rec_ok hT hs Rec.rec22993_ok
    rcases List.mem_cons.1 hr with rfl | hr
    · exact rec_ok hT hs Rec.rec23734_ok
    rcases List.mem_cons.1 hr with rfl | hr
    · exact rec_ok hT hs Rec.rec24475_ok
    rcases List.mem_cons.1 hr with rfl | hr
    · exact rec_ok hT hs Rec.rec25216_ok
    rcases List.mem_cons.1 hr with rfl | hr
    · exact rec_ok hT hs Rec.rec25957_ok
    rcases List.mem_cons.1 hr with rfl | hr
    · exact rec_ok hT hs Rec.rec26698_ok
    rcases List.mem_cons.1 hr with rfl | hr
    · exact rec_ok hT hs Rec.rec27481_ok
    rcases List.mem_cons.1 hr with rfl | hr
    · exact rec_ok hT hs Rec.rec28216_ok
    rcases List.mem_cons.1 hr with rfl | hr
    · exact rec_ok hT hs Rec.rec28957_ok
    rcases List.mem_cons.1 hr with rfl | hr
    · exact rec_ok hT hs Rec.rec29698_ok
    rcases List.mem_cons.1 hr with rfl | hr
    · exact rec_ok hT hs Rec.rec30439_ok
    rcases List.mem_cons.1 hr with rfl | hr
    · exact rec_ok hT hs Rec.rec31180_ok
    rcases List.mem_cons.1 hr with rfl | hr
    · exact rec_ok hT hs Rec.rec31921_ok
    rcases List.mem_cons.1 hr with rfl | hr
    · exact rec_ok hT hs Rec.rec32662_ok
    cases hr
  | false =>
    rw [e1] at h
    exact sums hT hs g m h
theorem awake20 : saysTrue (q_callA E20 1000000 false 34 [] ⟨.nil, 0, Ks.emp, Ks.emp⟩) = true := by kernel_rfl
theorem awake20_calls {w : World} (hT : TabAt 2 Lib.deBruijn32tab w) (hs : 2 < w.heap.size) :
    Calls Tryz.prog 34 #[] w (fun e w' => e = .returned (.bool true) ∧ Below w.heap.size w w') := by
  have h := awake20
  rw [q_callA_eq] at h
  exact closed_args tab20 (args := []) (ARGS := []) h rfl w (sums20 hT hs)
end Go.Proofs.YtefleapekgbpcaaGreatDoor.Aexd
