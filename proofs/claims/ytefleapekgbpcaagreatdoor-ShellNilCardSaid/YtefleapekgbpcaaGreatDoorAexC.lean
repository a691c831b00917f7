/- The executor over abstract memory: operations, regions, code, calls. -/
import Derived.Test.YtefleapekgbpcaaGreatDoorAexB
set_option linter.unusedVariables false
namespace Go.Aex

def evs (t : T AV) : List Operand → List AV
  | [] => []
  | x :: l => ev t x :: evs t l
def optEv (t : T AV) : Option Operand → Option AV
  | none => none
  | some x => some (ev t x)
def builtinA (E : Env) (b : Builtin) (argTypes : List Nat) (args : List AV) : M AV := match b, argTypes, args with
  | .append, [t, tx], [s, x] => appendA E t tx s x
  | .len, [t], [x] => lenOfA E t x
  | .copy, [t, _], [x, y] => copyA E t x y
  | .clear, [t], [x] => clearA E t x
  | .delete, [t, _], [x, k] => deleteA E t x k
  | .max, _, x :: l => ofOpt (maxF true x l)
  | .min, _, x :: l => ofOpt (maxF false x l)
  | _, _, _ => fail
/-- A send or a receive in a select with a default; nobody else is there. -/
def selectA (E : Env) (t : T AV) (cs : List SelectCase) (blocking : Bool) : M AV := match cs, blocking with
  | [c], false => match ev t c.chan, c.send with
    | .chan i, some x => bnd (tyOf E c.elem) fun _ => bnd (getO i) fun o => match o with
      | .chan cap buf s r => match Nat.blt buf.length cap with
        | true => strictN (s + 1) fun s' => bnd (setO i (.chan cap (buf ++ [ev t x]) s' r)) fun _ => ret (.tuple [.int .i64 0, .bool false])
        | false => ret (.tuple [.int .i64 (-1), .bool false])
      | _ => fail
    | .chan i, none => bnd (tyOf E c.elem) fun te => bnd (getO i) fun o => match o with
      | .chan cap buf s r => match buf with
        | v :: rest => strictN (r + 1) fun r' => bnd (setO i (.chan cap rest s r')) fun _ => ret (.tuple [.int .i64 0, .bool true, v])
        | [] => ret (.tuple [.int .i64 (-1), .bool false, te.zero])
      | _ => fail
    | _, _ => fail
  | _, _ => fail
def opA (E : Env) (cf : Bool → Nat → List AV → M AV) (t : T AV) (op : Op) : M AV := match op with
  | .move x => ret (ev t x)
  | .assign x => ret (ev t x)
  | .pick c a b => match ev t c with
    | .bool true => ret (ev t a)
    | .bool false => ret (ev t b)
    | _ => fail
  | .alloc el => bnd (tyOf E el) fun ti => boxA ti.zero
  | .box _ x => boxA (ev t x)
  | .build ty ps => buildA E ty (partsA t ps.toList)
  | .buildSlice ty n ps => buildSliceA E ty n (partsA t ps.toList)
  | .load ty a => loadA E ty (ev t a)
  | .store ty a x => bnd (storeA E ty (ev t a) (ev t x)) fun _ => ret undefA
  | .nilCheck x => match ev t x with
    | .ptr i o => ret (.ptr i o)
    | .func f a b => match f with
      | .func g => ret (.func f a b)
      | _ => fail
    | .yield i => ret (.yield i)
    | _ => fail
  | .binOp o ty x y _ => binA E o ty (ev t x) (ev t y)
  | .unOp o _ x => unA o (ev t x)
  | .convert s d x => convA E s d (ev t x)
  | .makeFunc f a b => ret (.func f (evs t a.toList) (evs t b.toList))
  | .makeMap _ none => bnd (newO (.map [] 0)) fun i => ret (.map i)
  | .makeChan ty n => makeChanA E ty (ev t n)
  | .makeSlice ty l c => makeSliceA E ty (ev t l) (ev t c)
  | .slice ty x lo hi mx => sliceA E ty (ev t x) (optEv t lo) (optEv t hi) (optEv t mx)
  | .fieldAddr ty x f => fieldAddrA E ty (ev t x) f
  | .field ty x f => fieldA E ty (ev t x) f
  | .indexAddr ty x i => indexAddrA E ty (ev t x) (ev t i)
  | .index ty x i => indexA E ty (ev t x) (ev t i)
  | .lookup ty x i ok => lookupA E ty (ev t x) (ev t i) ok
  | .mapUpdate ty m k x => bnd (mapUpdateA E ty (ev t m) (ev t k) (ev t x)) fun _ => ret undefA
  | .insert ty m k x => bnd (mapUpdateA E ty (ev t m) (ev t k) (ev t x)) fun _ => ret undefA
  | .extract x i => match ev t x with
    | .tuple l => ofOpt (nth l i)
    | _ => fail
  | .call c => match c.callee with
    | .builtin b => builtinA E b c.argTypes.toList (evs t c.args.toList)
    | .value f => match ev t f with
      | .func (.func g) first cap => cf false g (first ++ (evs t c.args.toList ++ cap))
      | .yield i => cf true i (evs t c.args.toList)
      | _ => fail
    | _ => fail
  | .select cs bl => selectA E t cs.toList bl
  | .sliceToArrayPointer ty x => arrayAtA E ty (ev t x)
  | _ => fail

/-! ### regions -/
def putA (n : Nat) (t : T AV) (dst : Option Tmp) (v : AV) : M (T AV) := match dst with
  | none => ret t
  | some d => match Nat.blt d n with
    | true => ret (t.set d v)
    | false => fail
def wantedA (ops : List Oper) (t : T AV) (o : Oper) : Option Bool := match o.guard with
  | none => some true
  | some (j, want) => match nth ops j with
    | none => some false
    | some oj => match oj.dst with
      | none => some false
      | some d => match getA t d with
        | .bool b => match b, want with
          | true, true => some true
          | false, false => some true
          | _, _ => some false
        | .raw _ => none
        | _ => some false
/-- One operation: what is put into its place. -/
def stepA (E : Env) (cf : Bool → Nat → List AV → M AV) (ops : List Oper) (t : T AV) (o : Oper) : M AV := match wantedA ops t o with
  | some true => opA E cf t o.op
  | some false => ret undefA
  | none => fail
def seqA (E : Env) (cf : Bool → Nat → List AV → M AV) (n : Nat) (ops : List Oper) : List Oper → T AV → M (T AV)
  | [], t => ret t
  | o :: l, t => bnd (stepA E cf ops t o) fun v => bnd (putA n t o.dst v) fun t' => seqA E cf n ops l t'
/-- What a step read, wrote and made. -/
structure Foot where
  rd : Ks
  wr : Ks
  lo : Nat
  hi : Nat
def footed {α : Type} (m : M α) : M (α × Foot) := fun s => match s with
  | ⟨h, nx, rd, wr⟩ => match m ⟨h, nx, Ks.emp, Ks.emp⟩ with
    | none => none
    | some (x, s') => match s' with
      | ⟨h', nx', rd', wr'⟩ => Ks.strict (Ks.uni rd' rd) fun a => Ks.strict (Ks.uni wr' wr) fun b => some ((x, ⟨rd', wr', nx, nx'⟩), ⟨h', nx', a, b⟩)
theorem footed_eq {α : Type} (m : M α) : footed m = fun s => match m { s with rd := Ks.emp, wr := Ks.emp } with
    | none => none
    | some (x, s') => some ((x, ⟨s'.rd, s'.wr, s.nx, s'.nx⟩), { s' with rd := Ks.uni s'.rd s.rd, wr := Ks.uni s'.wr s.wr }) := by
  funext s
  obtain ⟨h, nx, rd, wr⟩ := s
  simp only [footed, Ks.strict_eq]
def anyIn : List Nat → List Nat → Bool
  | [], _ => false
  | k :: l, m => match memN k m with
    | true => true
    | false => anyIn l m
/-- Have two sets a name in common? -/
def anyK (a b : Ks) : Bool := match Nat.beq (Nat.land a b) 0 with
  | true => false
  | false => true
/-- Has a set a name between two? -/
def betweenK (lo hi : Nat) (m : Ks) : Bool := match Nat.beq (Nat.land (Nat.shiftRight m lo) (Nat.sub (Nat.pow 2 (Nat.sub hi lo)) 1)) 0 with
  | true => false
  | false => true
/-- Two steps that may come in either order touch nothing of each other's. -/
def apartA (a b : Foot) : Bool := match anyK a.wr b.rd, anyK b.wr a.rd, (match Nat.beq a.lo a.hi with | true => false | false => betweenK a.lo a.hi b.rd), (match Nat.beq b.lo b.hi with | true => false | false => betweenK b.lo b.hi a.rd) with
  | false, false, false, false => true
  | _, _, _, _ => false
/-- The edges that bind in whatever order. -/
def bindsA (e : Edge) : Bool := match e.ground with
  | .textOnly _ => false
  | .gcOnly _ => false
  | _ => true
def hasK (k : Nat) (m : Ks) : Bool := match Nat.beq (Nat.land (Nat.shiftRight m k) 1) 0 with
  | true => false
  | false => true
def predsOf (done : List Ks) : List Edge → Ks
  | [] => Ks.emp
  | e :: l => match bindsA e with
    | true => match nth done e.on with
      | some p => Ks.uni (Ks.ins e.on p) (predsOf done l)
      | none => Ks.ins e.on (predsOf done l)
    | false => predsOf done l
/-- Of each operation: those that come ahead of it in every order. -/
def before (done : List Ks) : List Oper → List Ks
  | [] => done
  | o :: l => Ks.strict (predsOf done o.after.toList) fun p => before (done ++ [p]) l
def orderedA (bef : List Ks) (i j : Nat) : Bool := match nth bef j with
  | none => false
  | some p => hasK i p
def tmpOf : Operand → List Nat
  | .tmp t => [t]
  | _ => []
def tmpsOf : List Operand → List Nat
  | [] => []
  | x :: l => tmpOf x ++ tmpsOf l
/-- The temporaries that an operation looks at. -/
def looks (ops : List Oper) (o : Oper) : List Nat := tmpsOf o.op.operands.toList ++ (match o.guard with
  | none => []
  | some (j, _) => match nth ops j with
    | none => []
    | some oj => match oj.dst with
      | none => []
      | some d => [d])
def dstOf (ops : List Oper) (i : Nat) : List Nat := match nth ops i with
  | none => []
  | some o => match o.dst with
    | none => []
    | some d => [d]
def looksAt (ops : List Oper) (i : Nat) : List Nat := match nth ops i with
  | none => []
  | some o => looks ops o
/-- Two operations that may come in either order look at no temporary that the other fills, and fill no same one; edges go back. -/
def tmpsApart (ops : List Oper) (bef : List Ks) (j i : Nat) : Bool := match orderedA bef i j with
  | true => match anyIn (dstOf ops i) (dstOf ops j) with
    | true => false
    | false => true
  | false => match anyIn (dstOf ops i) (dstOf ops j), anyIn (dstOf ops i) (looksAt ops j), anyIn (dstOf ops j) (looksAt ops i) with
    | false, false, false => true
    | _, _, _ => false
def backA : Nat → List Edge → Bool
  | _, [] => true
  | i, e :: l => match bindsA e, Nat.blt e.on i with
    | true, false => false
    | _, _ => backA i l
def backs : Nat → List Oper → Bool
  | _, [] => true
  | i, o :: l => match backA i o.after.toList with
    | true => backs (i + 1) l
    | false => false
def opDst (o : Oper) : Ks := match o.dst with
  | none => Ks.emp
  | some d => Ks.ins d Ks.emp
def insAll : List Nat → Ks → Ks
  | [], m => m
  | k :: l, m => insAll l (Ks.ins k m)
/-- One operation's temporaries against those of the ones ahead of it. -/
def tmpsAll (p d l : Ks) : List (Nat × Ks × Ks) → Bool
  | [] => true
  | (i, di, li) :: r => match hasK i p with
    | true => match anyK di d with
      | true => false
      | false => tmpsAll p d l r
    | false => match anyK di d, anyK di l, anyK d li with
      | false, false, false => tmpsAll p d l r
      | _, _, _ => false
def tmpsFast (ops : List Oper) : List Oper → List Ks → Nat → List (Nat × Ks × Ks) → Bool
  | [], _, _, _ => true
  | o :: os, bef, j, prev => match bef with
    | [] => false
    | p :: bef => Ks.strict (opDst o) fun d => Ks.strict (insAll (looks ops o) Ks.emp) fun l => match tmpsAll p d l prev with
      | true => tmpsFast ops os bef (j + 1) ((j, d, l) :: prev)
      | false => false
def staticOk (ops : List Oper) : Bool := match backs 0 ops with
  | true => tmpsFast ops ops (before [] ops) 0 []
  | false => false
def emptyF (f : Foot) : Bool := match Nat.beq f.rd 0, Nat.beq f.wr 0, Nat.beq f.lo f.hi with
  | true, true, true => true
  | _, _, _ => false
def apartAll (p : Ks) (f : Foot) : List (Nat × Foot) → Bool
  | [] => true
  | (i, a) :: l => match hasK i p with
    | true => apartAll p f l
    | false => match apartA a f with
      | true => apartAll p f l
      | false => false
/-- What each operation touched against what those ahead of it touched. -/
def feetOk : List Foot → List Ks → Nat → List (Nat × Foot) → Bool
  | [], _, _, _ => true
  | f :: fs, bef, j, prev => match bef with
    | [] => false
    | p :: bef => match emptyF f with
      | true => feetOk fs bef (j + 1) prev
      | false => match apartAll p f prev with
        | true => feetOk fs bef (j + 1) ((j, f) :: prev)
        | false => false
def drawA (E : Env) (cf : Bool → Nat → List AV → M AV) (n : Nat) (ops : List Oper) : List Oper → T AV → List Foot → M (T AV × List Foot)
  | [], t, fs => ret (t, fs)
  | o :: l, t, fs => bnd (footed (stepA E cf ops t o)) fun r => bnd (putA n t o.dst r.1) fun t' => drawA E cf n ops l t' (fs ++ [r.2])
def regionA (E : Env) (cf : Bool → Nat → List AV → M AV) (n : Nat) (ops : List Oper) (draw : Bool) (t : T AV) : M (T AV) := match draw with
  | false => seqA E cf n ops ops t
  | true => match staticOk ops with
    | false => fail
    | true => bnd (drawA E cf n ops ops t []) fun r => match feetOk r.2 (before [] ops) 0 [] with
      | true => ret r.1
      | false => fail

/-! ### code, calls -/
/-- A frame: its temporaries, and the marks of loops over functions that it has entered. -/
structure Fr where
  t : T AV
  ds : List Nat
def setParams (n : Nat) : List Nat → List AV → T AV → Option (T AV)
  | [], [], t => some t
  | p :: ps, v :: vs, t => match Nat.blt p n with
    | true => setParams n ps vs (t.set p v)
    | false => none
  | _, _, _ => none
def codeA (E : Env) (cf : Bool → Nat → List AV → M AV) (rnd : Bool) (n : Nat) : Nat → Code → Fr → M (Out × Fr)
  | 0, _, _ => fail
  | f + 1, c, t => match c with
    | .skip => ret (.norm, t)
    | .label _ => ret (.norm, t)
    | .region _ ops draw => bnd (regionA E cf n ops.toList draw t.t) fun t' => ret (.norm, { t with t := t' })
    | .seq a b => bnd (codeA E cf rnd n f a t) fun r => match r.1 with
      | .norm => codeA E cf rnd n f b r.2
      | .exit i => ret (.exit i, r.2)
      | .ret => ret (.ret, r.2)
    | .cond c a b => match ev t.t c with
      | .bool true => codeA E cf rnd n f a t
      | .bool false => codeA E cf rnd n f b t
      | _ => fail
    | .block id b => bnd (codeA E cf rnd n f b t) fun r => match r.1 with
      | .norm => ret (.norm, r.2)
      | .exit i => match Nat.beq i id with
        | true => ret (.norm, r.2)
        | false => ret (.exit i, r.2)
      | .ret => ret (.ret, r.2)
    | .loop b => bnd (codeA E cf rnd n f b t) fun r => match r.1 with
      | .norm => codeA E cf rnd n f (.loop b) r.2
      | .exit i => ret (.exit i, r.2)
      | .ret => ret (.ret, r.2)
    | .exit id => ret (.exit id, t)
    | .ret => ret (.ret, t)
    | .rangeFunc g ps as body => match rnd, ev t.t g with
      | false, .func (.func h) first cap => bnd (newO .defd) fun d => bnd (newO (.loop n t.t ps.toList as body .ready)) fun l =>
        bnd (cf false h (first ++ (.yield l :: cap))) fun _ => bnd (getO l) fun o => match o with
          | .loop _ _ _ _ _ st => bnd (setO l .dead) fun _ => match st with
            | .ready => ret (.norm, { t with ds := d :: t.ds })
            | .done o => ret (o, { t with ds := d :: t.ds })
            | _ => fail
          | _ => fail
      | _, _ => fail
    | _ => fail
def argsT : List AV → Nat → T AV → T AV
  | [], _, t => t
  | v :: l, i, t => argsT l (i + 1) (t.set i v)
def resultA (E : Env) (t : T AV) : ResultVar → M AV
  | .tmp i => ret (getA t i)
  | .cell a ty => loadA E ty (getA t a)
def resultsA (E : Env) (t : T AV) : List ResultVar → M (List AV)
  | [] => ret []
  | r :: l => bnd (resultA E t r) fun v => bnd (resultsA E t l) fun vs => ret (v :: vs)
def takeD : List Nat → M Unit
  | [] => ret ()
  | d :: l => bnd (getO d) fun o => match o with
    | .defd => bnd (setO d .dead) fun _ => takeD l
    | _ => fail
def dropNew (lo hi : Nat) (l acc : Ks) : Ks := Nat.lor acc (Nat.lor (Nat.land l (Nat.sub (Nat.pow 2 lo) 1)) (Nat.shiftLeft (Nat.shiftRight l hi) hi))
/-- What a call made is no one else's: it is struck off the lists. -/
def struck {α : Type} (m : M α) : M α := fun s => match s with
  | ⟨h, nx, rd, wr⟩ => match m ⟨h, nx, Ks.emp, Ks.emp⟩ with
    | none => none
    | some (x, s') => match s' with
      | ⟨h', nx', rd', wr'⟩ => Ks.strict (dropNew nx nx' rd' rd) fun a => Ks.strict (dropNew nx nx' wr' wr) fun b => some (x, ⟨h', nx', a, b⟩)
theorem struck_eq {α : Type} (m : M α) : struck m = fun s => match m { s with rd := Ks.emp, wr := Ks.emp } with
    | none => none
    | some (x, s') => some (x, { s' with rd := dropNew s.nx s'.nx s'.rd s.rd, wr := dropNew s.nx s'.nx s'.wr s.wr }) := by
  funext s
  obtain ⟨h, nx, rd, wr⟩ := s
  simp only [struck, Ks.strict_eq]
/-- A call of a function (false), or a round of a loop over a function (true). -/
def callA (E : Env) : Nat → Bool → Nat → List AV → M AV
  | 0, _, _, _ => fail
  | f + 1, false, g, args => match E.sum g with
    | some m => struck (m args)
    | none => match E.fn g with
      | none => fail
      | some fn => match fn.body with
        | none => fail
        | some c => match Nat.ble args.length fn.ntmps with
          | false => fail
          | true => struck (bnd (codeA E (callA E f) false fn.ntmps f c ⟨argsT args 0 .nil, []⟩) fun r => match r.1 with
            | .exit _ => fail
            | _ => bnd (takeD r.2.ds) fun _ => bnd (resultsA E r.2.t fn.results.toList) fun vs => match vs with
              | [v] => ret v
              | vs => ret (.tuple vs))
  | f + 1, true, i, args => struck (bnd (getO i) fun o => match o with
    | .loop n t ps as body .ready => match setParams n ps args t with
      | none => fail
      | some t1 => bnd (codeA E (callA E f) true n f as ⟨t1, []⟩) fun r => match r.1 with
        | .norm => bnd (getO i) fun o1 => match o1 with
          | .loop n1 t1 ps1 as1 body1 .ready => bnd (setO i (.loop n1 t1 ps1 as1 body1 .busy)) fun _ => bnd (codeA E (callA E f) true n f body r.2) fun r2 => bnd (getO i) fun o2 => match o2 with
            | .loop n2 t2 ps2 as2 body2 _ => match r2.1 with
              | .norm => bnd (setO i (.loop n2 t2 ps2 as2 body2 .ready)) fun _ => ret (.bool true)
              | o => bnd (setO i (.loop n2 t2 ps2 as2 body2 (.done o))) fun _ => ret (.bool false)
            | _ => fail
          | _ => fail
        | _ => fail
    | _ => fail)
end Go.Aex
