/- A new group's calls; a nil group's. -/
import Derived.Test.YtefleapekgbpcaaGreatDoorHVsA
import Derived.Laws.MakeOwn
namespace Go.Proofs.YtefleapekgbpcaaGreatDoor.Nw
open Go.RowKit Go.Aex
set_option linter.unusedVariables false
set_option linter.unusedSimpArgs false
noncomputable def EV : Env := env Aexd.nTy Aexd.nFn Aexd.tyT Aexd.fnT
theorem tabV : Tab EV Tryz.prog := tab_of Aexd.tys Aexd.fns (by kernel_rfl)
theorem vfst_some {o : Option (AV × St)} {v : AV} (h : o.map Prod.fst = some v) : ∃ s', o = some (v, s') := by
  cases o with
  | none => cases h
  | some p => obtain ⟨u, s'⟩ := p; cases h; exact ⟨s', rfl⟩
theorem vbelow_step {w w1 w2 : World} (h : Below w.heap.size w w1) (k : Below w1.heap.size w1 w2) : Below w.heap.size w w2 := h.trans (k.mono h.size)
/-- A call that the executor runs whole. -/
theorem vcall {g : Nat} {args : List AV} {ARGS : List Value} {v : AV} {V : Value} (h : (q_callA EV 1001 false g args ⟨.nil, 0, Ks.emp, Ks.emp⟩).map Prod.fst = some v) (hv : conc ren0 v = some V) (hA : concL ren0 args = some ARGS) (w : World) :
    Calls Tryz.prog g ARGS.toArray w (fun e w' => e = .returned V ∧ Below w.heap.size w w') := by
  rw [q_callA_eq] at h
  obtain ⟨s', h⟩ := vfst_some h
  exact closed_run tabV h hv hA w (fun g m hm => by cases hm)
theorem vTick (w : World) : Calls Tryz.prog 11 #[.pointer none] w (fun e w' => e = .returned (.tuple #[]) ∧ Below w.heap.size w w') :=
  vcall (args := [.nilptr]) (v := .tuple []) (by kernel_rfl) (by simp [conc, concL]) (by simp [concL, conc]) w
theorem vSend (m : Value) (w : World) : Calls Tryz.prog 12 #[.pointer none, m] w (fun e w' => e = .returned (.int .i64 6) ∧ Below w.heap.size w w') :=
  vcall (args := [.nilptr, .raw m]) (v := .int .i64 (.ofNat 6)) (by kernel_rfl) (by simp [conc]) (by simp [concL, conc]) w
theorem vIn (m : Value) (w : World) : Calls Tryz.prog 13 #[.pointer none, m] w (fun e w' => e = .returned (.int .i64 6) ∧ Below w.heap.size w w') :=
  vcall (args := [.nilptr, .raw m]) (v := .int .i64 (.ofNat 6)) (by kernel_rfl) (by simp [conc]) (by simp [concL, conc]) w
theorem vOut (w : World) : Calls Tryz.prog 14 #[.pointer none] w (fun e w' => e = .returned (.slice none 0 0) ∧ Below w.heap.size w w') :=
  vcall (args := [.nilptr]) (v := .nilslice) (by kernel_rfl) (by simp [conc]) (by simp [concL, conc]) w
theorem vEvents (w : World) : Calls Tryz.prog 15 #[.pointer none] w (fun e w' => e = .returned (.slice none 0 0) ∧ Below w.heap.size w w') :=
  vcall (args := [.nilptr]) (v := .nilslice) (by kernel_rfl) (by simp [conc]) (by simp [concL, conc]) w
theorem vView (w : World) : Calls Tryz.prog 16 #[.pointer none] w (fun e w' => e = .returned (.agg #[.int .u64 0, .int .i64 0, .int .u16 0]) ∧ Below w.heap.size w w') :=
  vcall (args := [.nilptr]) (v := .agg [.int .u64 (.ofNat 0), .int .i64 (.ofNat 0), .int .u16 (.ofNat 0)]) (by kernel_rfl) (by simp [conc, concL]) (by simp [concL, conc]) w
theorem vOpen (w : World) : Calls Tryz.prog 17 #[.pointer none] w (fun e w' => e = .returned (.bool false) ∧ Below w.heap.size w w') :=
  vcall (args := [.nilptr]) (v := .bool false) (by kernel_rfl) (by simp [conc]) (by simp [concL, conc]) w
theorem vEst (w : World) : Calls Tryz.prog 18 #[.pointer none] w (fun e w' => e = .returned (.int .u16 0) ∧ Below w.heap.size w w') :=
  vcall (args := [.nilptr]) (v := .int .u16 (.ofNat 0)) (by kernel_rfl) (by simp [conc]) (by simp [concL, conc]) w
/-! A new group. -/
def gCells : List (Option AV) := [none, none, none, none, none, none, none, none, some (.ptr 1 0), none, none, none, none, none, none, none, none, none, none, none, none, none, none, none, none, none, none, none, none, none, none, none, none, some .nilslice, some .nilslice]
def mCells : List (Option AV) := [none, none, some (.int .u64 (.ofNat 0))]
def grp : List (Nat × AObj) := [(0, .row 1 gCells), (1, .row 1 mCells)]
def rhoG (G M : Nat) : Ren := fun k => match k with
  | 0 => some ⟨G, 0, 35⟩
  | 1 => some ⟨M, 0, 3⟩
  | _ => none
/-- The group and its member stand where they were laid. -/
def Grp (W : World) (G M : Nat) (w : World) : Prop := Rel W.heap.size W (rhoG G M) (litT grp).get w
def cellsAt (F : Nat → AV → Prop) : Nat → List (Option AV) → Prop
  | _, [] => True
  | n, none :: l => cellsAt F (n + 1) l
  | n, some v :: l => F n v ∧ cellsAt F (n + 1) l
theorem cellsAt_get {F : Nat → AV → Prop} : ∀ {l : List (Option AV)} {n : Nat}, cellsAt F n l → ∀ k v, l[k]? = some (some v) → F (n + k) v
  | [], n, _, k, v, h => by simp at h
  | none :: l, n, hc, 0, v, h => by simp at h
  | none :: l, n, hc, k + 1, v, h => by
    have := cellsAt_get (l := l) (n := n + 1) hc k v (by simpa using h)
    rwa [show n + 1 + k = n + (k + 1) by omega] at this
  | some u :: l, n, hc, 0, v, h => by simp at h; subst h; exact hc.1
  | some u :: l, n, hc, k + 1, v, h => by
    have := cellsAt_get (l := l) (n := n + 1) hc.2 k v (by simpa using h)
    rwa [show n + 1 + k = n + (k + 1) by omega] at this
theorem grp_of {W w : World} {G M : Nat} {c c2 : Array Value} {t t2 : TypeId} (hb : Below W.heap.size W w) (h1 : W.heap.size ≤ G) (h2 : W.heap.size ≤ M) (h3 : G ≠ M) (hG : w.heap[G]? = some (.cells c t (0, 0))) (c1 : 35 ≤ c.size) (c8 : c[8]? = some (.pointer (some ⟨M, 0, none⟩))) (c33 : c[33]? = some (.slice none 0 0)) (c34 : c[34]? = some (.slice none 0 0))
    (hM : w.heap[M]? = some (.cells c2 t2 (0, 0))) (m1 : 3 ≤ c2.size) (m2 : c2[2]? = some (.int .u64 0)) : Grp W G M w := by
  have two : ∀ i o, (litT grp).get i = some o → (i = 0 ∧ o = .row 1 gCells) ∨ (i = 1 ∧ o = .row 1 mCells) := fun i o h => by
    have := litT_mem h
    simpa [grp] using this
  have liv : ∀ i, liveAt (litT grp).get i → i = 0 ∨ i = 1 := fun i ⟨o, ho, _⟩ => (two i o ho).elim (fun e => .inl e.1) (fun e => .inr e.1)
  refine ⟨hb, Nat.le_refl _, fun i o ho => ?_, fun i j p q li lj hi hj e => ?_, fun i p li hi => ?_⟩
  · rcases two i o ho with ⟨rfl, rfl⟩ | ⟨rfl, rfl⟩
    · refine ⟨⟨G, 0, 35⟩, c, t, (0, 0), rfl, hG, by simpa using c1, by simp [gCells], .inl rfl, fun k v hk => ?_⟩
      have := cellsAt_get (F := fun k v => ∃ V, conc (rhoG G M) v = some V ∧ c[k]? = some V) (l := gCells) (n := 0) (by simp [gCells, cellsAt, conc, rhoG, c8, c33, c34]) k v hk
      simpa using this
    · refine ⟨⟨M, 0, 3⟩, c2, t2, (0, 0), rfl, hM, by simpa using m1, by simp [mCells], .inl rfl, fun k v hk => ?_⟩
      have := cellsAt_get (F := fun k v => ∃ V, conc (rhoG G M) v = some V ∧ c2[k]? = some V) (l := mCells) (n := 0) (by simp [mCells, cellsAt, conc, rhoG, m2]) k v hk
      simpa using this
  · rcases liv i li with rfl | rfl <;> rcases liv j lj with rfl | rfl <;> simp only [rhoG, Option.some.injEq] at hi hj <;> subst hi hj <;> first | rfl | (simp only at e; omega)
  · rcases liv i li with rfl | rfl <;> simp only [rhoG, Option.some.injEq] at hi <;> subst hi <;> simpa
theorem Grp.step {W : World} {G M : Nat} {w : World} (h : Grp W G M w) {f : Nat} {v : AV} {V : Value} (hl : leaves (q_callA EV 1001 false f [.ptr 0 0] ⟨litT grp, 2, Ks.emp, Ks.emp⟩) v 2 grp = true) (hv : ∀ ρ, conc ρ v = some V) :
    Calls Tryz.prog f #[.pointer (some ⟨G, 0, none⟩)] w (fun e w' => e = .returned V ∧ Grp W G M w') := by
  rw [q_callA_eq] at hl
  have := leaves_calls (f := 1000) tabV (fun g m hm => by cases hm) hl h (fun k a b => by omega) (ARGS := [.pointer (some ⟨G, 0, none⟩)]) (by simp [concL, conc, rhoG])
  refine this.mono fun e w' ⟨ρ', V', h1, h2, h3, h4⟩ => ?_
  have e : ρ' = rhoG G M := funext fun k => h2.2 k (by omega)
  subst e
  rw [hv] at h4
  cases h4
  exact ⟨h1, h3⟩
theorem gOpen {W : World} {G M : Nat} {w : World} (h : Grp W G M w) : Calls Tryz.prog 17 #[.pointer (some ⟨G, 0, none⟩)] w (fun e w' => e = .returned (.bool false) ∧ Grp W G M w') :=
  h.step (v := .bool false) (by kernel_rfl) (fun _ => by simp [conc])
theorem gOut {W : World} {G M : Nat} {w : World} (h : Grp W G M w) : Calls Tryz.prog 14 #[.pointer (some ⟨G, 0, none⟩)] w (fun e w' => e = .returned (.slice none 0 0) ∧ Grp W G M w') :=
  h.step (v := .nilslice) (by kernel_rfl) (fun _ => by simp [conc])
theorem gEvents {W : World} {G M : Nat} {w : World} (h : Grp W G M w) : Calls Tryz.prog 15 #[.pointer (some ⟨G, 0, none⟩)] w (fun e w' => e = .returned (.slice none 0 0) ∧ Grp W G M w') :=
  h.step (v := .nilslice) (by kernel_rfl) (fun _ => by simp [conc])
theorem Grp.keep {W : World} {G M : Nat} {w w' : World} (h : Grp W G M w) (hb : Below w.heap.size w w') : Grp W G M w' := Rel.keep h hb
theorem Grp.below {W : World} {G M : Nat} {w : World} (h : Grp W G M w) : Below W.heap.size W w := h.bel
set_option maxHeartbeats 8000000 in
set_option maxRecDepth 100000 in
/-- No view: nothing is sent. -/
theorem gSend {W : World} {G M : Nat} {w : World} (h : Grp W G M w) (A : Option Addr) (n cap : Nat) (hn : n ≤ 524288) : Calls Tryz.prog 12 #[.pointer (some ⟨G, 0, none⟩), .slice A n cap] w (fun e w' => e = .returned (.int .i64 8) ∧ Grp W G M w') := by
  have d : decide (524288 < (n : Int)) = false := decide_eq_false (by omega)
  have HO := Aside0.mk (gOpen h)
  clear h
  go_enter Tryz.func12, Tryz.ntmps12
  go_wp2_with (go_at_call 17; refine HO.out.mono ?_; rintro e w' ⟨rfl, hg⟩; have HG := Aside0.mk hg; clear hg)
  go_ret
  exact ⟨rfl, HG.out⟩
set_option maxHeartbeats 8000000 in
set_option maxRecDepth 100000 in
/-- Too long. -/
theorem gLong {G : Nat} {w : World} (A : Option Addr) (n cap : Nat) (hn : 524288 < n) : Calls Tryz.prog 12 #[.pointer (some ⟨G, 0, none⟩), .slice A n cap] w (fun e w' => e = .returned (.int .i64 2) ∧ w = w') := by
  have d : decide (524288 < (n : Int)) = true := decide_eq_true (by omega)
  go_enter Tryz.func12, Tryz.ntmps12
  go_wp2_with fail
  go_ret
  exact ⟨rfl, rfl⟩
end Go.Proofs.YtefleapekgbpcaaGreatDoor.Nw
