/- The executor over abstract memory: its steps. -/
import Derived.Test.YtefleapekgbpcaaGreatDoorAexA
import Derived.Laws.Sem
set_option linter.unusedVariables false
namespace Go.Aex

/-! ### lists -/
def nth {α : Type} : List α → Nat → Option α
  | [], _ => none
  | x :: _, 0 => some x
  | _ :: xs, n + 1 => nth xs n
def takeAll : Nat → List (Option AV) → Option (List AV)
  | 0, _ => some []
  | n + 1, some v :: xs => match takeAll n xs with
    | none => none
    | some r => some (v :: r)
  | _ + 1, _ => none
def over : List (Option AV) → Nat → List AV → Option (List (Option AV))
  | cs, 0, [] => some cs
  | c :: cs, 0, v :: vs => match over cs 0 vs with
    | none => none
    | some r => some (some v :: r)
  | [], 0, _ :: _ => none
  | [], _ + 1, _ => none
  | c :: cs, n + 1, vs => match over cs n vs with
    | none => none
    | some r => some (c :: r)
def one : AV → Bool
  | .agg _ | .tuple _ => false
  | .raw v => v.oneCell'
  | _ => true
def cellsOf : AV → List AV
  | .agg l => l
  | v => [v]
def allOne : List AV → Bool
  | [] => true
  | v :: l => match one v with
    | true => allOne l
    | false => false
def somes : List AV → List (Option AV)
  | [] => []
  | v :: l => some v :: somes l
def memN : Nat → List Nat → Bool
  | _, [] => false
  | k, x :: l => match Nat.beq k x with
    | true => true
    | false => memN k l

/-! ### numbers, strictly -/
def strictN {β : Type} (n : Nat) (f : Nat → β) : β := match n with
  | 0 => f 0
  | m + 1 => f (m + 1)
def strictI {β : Type} (n : Int) (f : Int → β) : β := match n with
  | .ofNat m => strictN m fun x => f (.ofNat x)
  | .negSucc m => strictN m fun x => f (.negSucc x)
def maxOf : IntKind → Nat
  | .i8 => 127 | .i16 => 32767 | .i32 => 2147483647 | .i64 => 9223372036854775807
  | .u8 => 255 | .u16 => 65535 | .u32 => 4294967295 | .u64 => 18446744073709551615
/-- 'wrap', quick where the number fits. -/
def wrapI (k : IntKind) (n : Int) : Int := match n with
  | .ofNat m => match Nat.ble m (maxOf k) with
    | true => .ofNat m
    | false => k.wrap n
  | .negSucc _ => k.wrap n
def beqI : Int → Int → Bool
  | .ofNat a, .ofNat b => Nat.beq a b
  | .negSucc a, .negSucc b => Nat.beq a b
  | _, _ => false
def ltI : Int → Int → Bool
  | .ofNat a, .ofNat b => Nat.blt a b
  | .negSucc a, .negSucc b => Nat.blt b a
  | .negSucc _, .ofNat _ => true
  | .ofNat _, .negSucc _ => false
def bool {β : Type} (b : Bool) (f : AV → β) : β := match b with
  | true => f (.bool true)
  | false => f (.bool false)
def int (k : IntKind) (n : Int) : M AV := strictI n fun m => ret (.int k m)
def beqK : IntKind → IntKind → Bool
  | .i8, .i8 | .i16, .i16 | .i32, .i32 | .i64, .i64 | .u8, .u8 | .u16, .u16 | .u32, .u32 | .u64, .u64 => true
  | _, _ => false
def beqB : List UInt8 → List UInt8 → Bool
  | [], [] => true
  | a :: x, b :: y => match Nat.beq a.toNat b.toNat with
    | true => beqB x y
    | false => false
  | _, _ => false

/-! ### constants -/
def ofV1 : Value → AV
  | .bool b => .bool b
  | .int k n => .int k n
  | .string s => .str s.data.toList
  | .pointer none => .nilptr
  | .slice none 0 0 => .nilslice
  | .map none => .nilmap
  | .chan none => .nilchan
  | .nilFunc => .nilfunc
  | .nilIface => .nilface
  | v => .raw v
def ofV : Value → AV
  | .agg cs => .agg (cs.toList.map ofV1)
  | .tuple cs => match cs.toList with
    | [] => .tuple []
    | _ :: _ => .raw (.tuple cs)
  | v => ofV1 v
def undefA : AV := .tuple []
def getA (t : T AV) (i : Nat) : AV := match t.get i with
  | none => undefA
  | some v => v
def ev (t : T AV) : Operand → AV
  | .tmp i => getA t i
  | .const v => ofV v
  | .global g => .raw (.pointer (some ⟨g, 0, none⟩))
  | .func f => .func (.func f) [] []

/-! ### the program's tables -/
structure TyI where
  desc : TypeDesc
  size : Nat
  bytes : Nat
  agg : Bool
  eqok : Bool
  zero : AV
structure Env where
  ty : Nat → Option TyI
  fn : Nat → Option Func
  sum : Nat → Option (List AV → M AV)

/-! ### memory -/
def getRow (i : Nat) : M (Nat × List (Option AV)) := bnd (getO i) fun o => match o with
  | .row e cs => ret (e, cs)
  | _ => fail
def tyOf (E : Env) (t : Nat) : M TyI := ofOpt (E.ty t)
def loadA (E : Env) (t : Nat) (a : AV) : M AV := match a with
  | .ptr i o => bnd (tyOf E t) fun ti => bnd (getRow i) fun r => match ti.agg with
    | true => match takeAll ti.size (r.2.drop o) with
      | some l => ret (.agg l)
      | none => fail
    | false => match nth r.2 o with
      | some (some v) => ret v
      | _ => fail
  | _ => fail
def storeCellsA (i o : Nat) (vs : List AV) : M Unit := match allOne vs with
  | true => bnd (getRow i) fun r => match over r.2 o vs with
    | some cs => setO i (.row r.1 cs)
    | none => fail
  | false => fail
def storeA (E : Env) (t : Nat) (a v : AV) : M Unit := match a with
  | .ptr i o => bnd (tyOf E t) fun ti => match Nat.beq (cellsOf v).length ti.size with
    | true => storeCellsA i o (cellsOf v)
    | false => fail
  | _ => fail
def newRowA (esz : Nat) (cs : List AV) : M Nat := newO (.row esz (somes cs))
/-- A variable of its own: as many elements as cells. -/
def boxA (v : AV) : M AV := match allOne (cellsOf v) with
  | true => bnd (newRowA 1 (cellsOf v)) fun i => ret (.ptr i 0)
  | false => fail

/-! ### structs, arrays -/
/-- The cells of a part laid over those from 'off' on. -/
def lay (cs : List AV) (off : Nat) (vs : List AV) : Option (List AV) := match cs, off, vs with
  | cs, 0, [] => some cs
  | _ :: cs, 0, v :: vs => match lay cs 0 vs with
    | none => none
    | some r => some (v :: r)
  | c :: cs, n + 1, vs => match lay cs n vs with
    | none => none
    | some r => some (c :: r)
  | [], _, _ => none
def fillA (place : Nat → Option (Nat × Nat)) : List AV → List (Nat × AV) → Option (List AV)
  | cs, [] => some cs
  | cs, (i, v) :: rest => match place i with
    | none => none
    | some (off, size) => match Nat.beq (cellsOf v).length size, allOne (cellsOf v) with
      | false, _ => none
      | _, false => none
      | true, true => match lay cs off (cellsOf v) with
        | none => none
        | some cs' => fillA place cs' rest
def sizeA (E : Env) (t : Nat) : Option Nat := match E.ty t with
  | none => none
  | some ti => some ti.size
def partsA (t : T AV) : List (Nat × Operand) → List (Nat × AV)
  | [] => []
  | (i, x) :: l => (i, ev t x) :: partsA t l
def repeatA (n : Nat) (l : List AV) : List AV := match n with
  | 0 => []
  | n + 1 => l ++ repeatA n l
def fieldsPlace (E : Env) (fs : List Field) (i : Nat) : Option (Nat × Nat) := match nth fs i with
  | none => none
  | some f => match sizeA E f.type with
    | none => none
    | some n => some (f.offset, n)
def fieldsKnown (E : Env) : List Field → Bool
  | [] => true
  | f :: l => match sizeA E f.type with
    | none => false
    | some _ => fieldsKnown E l
def buildA (E : Env) (ty : Nat) (parts : List (Nat × AV)) : M AV := bnd (tyOf E ty) fun ti => match ti.desc with
  | .struct fs => match fieldsKnown E fs.toList with
    | true => match fillA (fieldsPlace E fs.toList) (cellsOf ti.zero) parts with
      | some l => ret (.agg l)
      | none => fail
    | false => fail
  | .array _ el => match sizeA E el with
    | some n => match fillA (fun i => some (i * n, n)) (cellsOf ti.zero) parts with
      | some l => ret (.agg l)
      | none => fail
    | none => fail
  | _ => fail
def buildSliceA (E : Env) (ty len : Nat) (parts : List (Nat × AV)) : M AV := bnd (tyOf E ty) fun ti => match ti.desc with
  | .slice el => bnd (tyOf E el) fun te => match Nat.ble (len * te.size) 10000 with
    | true => match Nat.blt 0 te.size with
      | true => match fillA (fun i => some (i * te.size, te.size)) (repeatA len (cellsOf te.zero)) parts with
        | some l => bnd (newRowA te.size l) fun i => ret (.slice i 0 len (.lit len))
        | none => fail
      | false => fail
    | false => fail
  | _ => fail
def partA (E : Env) (ty : Nat) (cs : List AV) (off : Nat) : Option AV := match E.ty ty with
  | none => none
  | some ti => match ti.agg with
    | true => match Nat.ble (off + ti.size) cs.length with
      | true => some (.agg ((cs.drop off).take ti.size))
      | false => none
    | false => nth cs off
def fieldA (E : Env) (ty : Nat) (x : AV) (f : Nat) : M AV := bnd (tyOf E ty) fun ti => match ti.desc with
  | .struct fs => match nth fs.toList f with
    | some fd => match x with
      | .agg cs => ofOpt (partA E fd.type cs fd.offset)
      | _ => fail
    | none => fail
  | _ => fail
def fieldAddrA (E : Env) (ty : Nat) (x : AV) (f : Nat) : M AV := bnd (tyOf E ty) fun ti => match ti.desc with
  | .struct fs => match nth fs.toList f with
    | some fd => match x, sizeA E fd.type with
      | .ptr i o, some (_ + 1) => strictN (o + fd.offset) fun q => ret (.ptr i q)
      | _, _ => fail
    | none => fail
  | _ => fail
def indexAddrA (E : Env) (ty : Nat) (x ix : AV) : M AV := bnd (tyOf E ty) fun ti => match ti.desc, x, ix with
  | .slice el, .slice i o len _, .int _ (.ofNat n) => match Nat.blt n len with
    | true => match sizeA E el with
      | some sz => strictN (o + n * sz) fun q => ret (.ptr i q)
      | none => fail
    | false => fail
  | .array len el, .ptr i o, .int _ (.ofNat n) => match Nat.blt n len with
    | true => match sizeA E el with
      | some sz => strictN (o + n * sz) fun q => ret (.ptr i q)
      | none => fail
    | false => fail
  | _, _, _ => fail
def arrayAtA (E : Env) (ty : Nat) (x : AV) : M AV := bnd (tyOf E ty) fun ti => match ti.desc, x with
  | .array n _, .slice i o len _ => match Nat.ble n len with
    | true => ret (.ptr i o)
    | false => fail
  | _, _ => fail
def indexA (E : Env) (ty : Nat) (x ix : AV) : M AV := bnd (tyOf E ty) fun ti => match ti.desc, x, ix with
  | .array len el, .agg cs, .int _ (.ofNat n) => match Nat.blt n len with
    | true => match sizeA E el with
      | some sz => ofOpt (partA E el cs (n * sz))
      | none => fail
    | false => fail
  | .string, .str s, .int _ (.ofNat n) => match nth s n with
    | some b => strictN b.toNat fun m => ret (.int .u8 (.ofNat m))
    | none => fail
  | _, _, _ => fail

/-! ### slices -/
def boundA (x : Option AV) (dflt : Nat) : Option Nat := match x with
  | none => some dflt
  | some (.int _ (.ofNat n)) => some n
  | some _ => none
/-- The slice lies whole within what is known of its row. -/
def restOk (r : Nat × List (Option AV)) (o len sz k : Nat) : Bool := match Nat.beq r.1 sz, Nat.beq o (k * sz), Nat.ble (o + len * sz) r.2.length, Nat.blt 0 sz with
  | true, true, true, true => true
  | _, _, _, _ => false
def isZ (o : Option Nat) : Bool := match o with
  | some n => Nat.beq n 0
  | none => false
def hiA (mx hi : Option AV) (len : Nat) : Option Nat := match mx, hi with
  | some _, none => none
  | _, hi => boundA hi len
/-- A part of what has a known capacity. -/
def sliceLit (i o len c sz : Nat) (lo hi mx : Option Nat) : M AV := match lo, hi, mx with
  | some l, some h, some m => match Nat.ble l h, Nat.ble h m, Nat.ble m c with
    | true, true, true => match Nat.beq m l with
      | true => strictN (h - l) fun n => ret (.slice i o n (.lit 0))
      | false => strictN (h - l) fun n => strictN (m - l) fun c' => strictN (o + l * sz) fun q => ret (.slice i q n (.lit c'))
    | _, _, _ => fail
  | _, _, _ => fail
def sliceA (E : Env) (ty : Nat) (x : AV) (lo hi mx : Option AV) : M AV := bnd (tyOf E ty) fun ti => match ti.desc, x, mx with
  | .slice el, .nilslice, none => match isZ (boundA lo 0), isZ (boundA hi 0), sizeA E el with
    | true, true, some _ => ret .nilslice
    | _, _, _ => fail
  | .slice el, .eslice i o0 o1 k, none => match isZ (boundA lo 0), isZ (boundA hi 0), sizeA E el with
    | true, true, some _ => ret (.eslice i o0 o1 k)
    | _, _, _ => fail
  | .slice el, .slice i o len cap, mx => match sizeA E el with
    | none => fail
    | some sz => match cap with
      | .lit c => sliceLit i o len c sz (boundA lo 0) (hiA mx hi len) (boundA mx c)
      | .rest k => bnd (getRow i) fun r => match restOk r o len sz k with
       | false => fail
       | true => match mx with
        | some (.int _ (.ofNat m)) => match Nat.ble m len with
          | true => sliceLit i o len len sz (boundA lo 0) (hiA mx hi len) (some m)
          | false => fail
        | some _ => fail
        | none => match boundA lo 0, boundA hi len with
          | some l, some h => match Nat.ble l h, Nat.ble h len with
            | true, true => match Nat.beq l len with
              | true => match Nat.beq len 0 with
                | true => ret (.slice i o 0 (.rest k))
                | false => strictN (o + l * sz) fun q => strictN (k + l) fun k' => ret (.eslice i o q k')
              | false => strictN (h - l) fun n => strictN (k + l) fun k' => strictN (o + l * sz) fun q => ret (.slice i q n (.rest k'))
            | true, false => match Nat.ble (o + h * sz) r.2.length, Nat.blt l h with
              | true, true => strictN (h - l) fun n => strictN (k + l) fun k' => strictN (o + l * sz) fun q => ret (.slice i q n (.rest k'))
              | _, _ => fail
            | _, _ => fail
          | _, _ => fail
  | .array len el, .ptr i o, none => match sizeA E el with
    | none => fail
    | some sz => sliceLit i o len len sz (boundA lo 0) (boundA hi len) (some len)
  | .string, .str b, none => match boundA lo 0, boundA hi b.length with
    | some l, some h => match Nat.ble l h, Nat.ble h b.length with
      | true, true => ret (.str ((b.drop l).take (h - l)))
      | _, _ => fail
    | _, _ => fail
  | _, _, _ => fail
def bytesAV : List UInt8 → List AV
  | [] => []
  | b :: l => strictN b.toNat fun m => .int .u8 (.ofNat m) :: bytesAV l
/-- The first cells of what is appended or copied: whole elements. -/
def firstA (size n : Nat) (x : AV) : M (List AV) := match x with
  | .nilslice => match n with
    | 0 => ret []
    | _ + 1 => fail
  | .eslice _ _ _ _ => match n with
    | 0 => ret []
    | _ + 1 => fail
  | .slice i o _ _ => bnd (getRow i) fun r => ofOpt (takeAll (n * size) (r.2.drop o))
  | .str s => ret (bytesAV (s.take n))
  | _ => fail
def lenA (x : AV) : Option Nat := match x with
  | .nilslice => some 0
  | .eslice _ _ _ _ => some 0
  | .slice _ _ n _ => some n
  | .str s => some s.length
  | _ => none
/-- What may be appended: a slice, or a string to bytes. -/
def seqOk (d : TypeDesc) (x : AV) (size : Nat) : Bool := match d, x with
  | .slice _, .str _ => false
  | .slice _, _ => true
  | .string, .str _ => Nat.beq size 1
  | _, _ => false
/-- A slice's new row: no known bound to its capacity. -/
def grown (esz : Nat) (cs : List (Option AV)) (n : Nat) : M AV := bnd (newO (.row esz cs)) fun j => ret (.slice j 0 n (.rest 0))
def appendTo (sz : Nat) (s : AV) (n len : Nat) (new : List AV) : M AV := match s with
  | .nilslice => match n with
    | 0 => ret .nilslice
    | _ + 1 => grown sz (somes new) n
  | .eslice i o0 o1 k => match n with
    | 0 => ret (.eslice i o0 o1 k)
    | _ + 1 => bnd (getRow i) fun r => match Nat.beq r.1 sz, Nat.beq o1 (k * sz) with
      | true, true => bnd (setO i .dead) fun _ => grown sz (somes new) n
      | _, _ => fail
  | .slice i o _ (.lit c) => bnd (getRow i) fun r => match Nat.ble (o + len * sz) r.2.length with
    | false => fail
    | true => match Nat.ble (len + n) c with
      | true => match over r.2 (o + len * sz) new with
        | some cs => bnd (setO i (.row r.1 cs)) fun _ => strictN (len + n) fun m => ret (.slice i o m (.lit c))
        | none => fail
      | false => strictN (len + n) fun m => grown sz ((r.2.drop o).take (len * sz) ++ somes new) m
  | .slice i o _ (.rest k) => bnd (getRow i) fun r => match Nat.ble (o + len * sz) r.2.length, Nat.beq r.1 sz, Nat.beq o (k * sz) with
    | true, true, true => match Nat.ble (o + (len + n) * sz) r.2.length with
      | true => match over r.2 (o + len * sz) new with
        | some cs => bnd (setO i (.row r.1 cs)) fun _ => strictN (len + n) fun m => ret (.slice i o m (.rest k))
        | none => fail
      | false => bnd (setO i .dead) fun _ => strictN (len + n) fun m => grown sz ((r.2.drop o).take (len * sz) ++ somes new) m
    | _, _, _ => fail
  | _ => fail
def appendA (E : Env) (sTy xTy : Nat) (s x : AV) : M AV := bnd (tyOf E sTy) fun ti => match ti.desc with
  | .slice el => bnd (tyOf E el) fun te => bnd (tyOf E xTy) fun tx => match seqOk tx.desc x te.size with
    | true => match Nat.blt 0 te.size, lenA x, lenA s with
      | true, some n, some len => match Nat.ble ((2 * (len + n) + 192) * te.bytes) 281474976710656, Nat.ble (len + n) 9223372036854775807 with
        | true, true => bnd (firstA te.size n x) fun new => match allOne new with
          | true => appendTo te.size s n len new
          | false => fail
        | _, _ => fail
      | _, _, _ => fail
    | false => fail
  | _ => fail

/-! ### operations on numbers, strings; equality -/
def eq1 : TypeDesc → AV → AV → Option Bool
  | .bool, .bool a, .bool b => match a, b with
    | true, true => some true
    | false, false => some true
    | _, _ => some false
  | .int _, .int k a, .int k' b => match beqK k k' with
    | true => some (beqI a b)
    | false => none
  | .string, .str a, .str b => some (beqB a b)
  | .pointer _, .nilptr, .nilptr => some true
  | .pointer _, .nilptr, .ptr _ _ => some false
  | .pointer _, .ptr _ _, .nilptr => some false
  | .slice _, .nilslice, .nilslice => some true
  | .slice _, .nilslice, .slice _ _ _ _ => some false
  | .slice _, .nilslice, .eslice _ _ _ _ => some false
  | .slice _, .slice _ _ _ _, .nilslice => some false
  | .slice _, .eslice _ _ _ _, .nilslice => some false
  | .map _ _, .nilmap, .nilmap => some true
  | .map _ _, .nilmap, .map _ => some false
  | .map _ _, .map _, .nilmap => some false
  | .func _ _ _, .nilfunc, .nilfunc => some true
  | .func _ _ _, .nilfunc, .func _ _ _ => some false
  | .func _ _ _, .func _ _ _, .nilfunc => some false
  | _, _, _ => none
/-- Elements, one behind the other. -/
def eqIt (E : Env) (f : AV → AV → Option Bool) (el sz : Nat) (xs ys : List AV) : List Nat → Option Bool
  | [] => some true
  | i :: is => match partA E el xs (i * sz), partA E el ys (i * sz) with
    | some u, some v => match f u v with
      | some true => eqIt E f el sz xs ys is
      | r => r
    | _, _ => none
mutual
def eqT (E : Env) : Nat → Nat → AV → AV → Option Bool
  | 0, _, _, _ => none
  | d + 1, t, x, y => match E.ty t with
    | none => none
    | some ti => match ti.desc with
      | .struct fs => match x, y, ti.eqok with
        | .agg xs, .agg ys, true => eqF E d fs.toList xs ys
        | _, _, _ => none
      | .array n el => match x, y, ti.eqok, sizeA E el with
        | .agg xs, .agg ys, true, some sz => eqIt E (eqT E d el) el sz xs ys (List.range n)
        | _, _, _, _ => none
      | desc => eq1 desc x y
def eqF (E : Env) : Nat → List Field → List AV → List AV → Option Bool
  | 0, _, _, _ => none
  | d + 1, fs, xs, ys => match fs with
    | [] => some true
    | f :: l => match partA E f.type xs f.offset, partA E f.type ys f.offset with
      | some u, some v => match eqT E d f.type u v with
        | some true => eqF E d l xs ys
        | r => r
      | _, _ => none
end
/-- Nothing stands ahead of the comparison. -/
def eqOk (E : Env) (t : Nat) (x : AV) : Bool := match x with
  | .agg _ => match E.ty t with
    | some ti => ti.eqok
    | none => false
  | .nilface => false
  | .iface _ _ => false
  | .raw _ => false
  | _ => true
def shlA (k : IntKind) (a b : Int) : Int := k.wrap (a * 2 ^ (min b.toNat k.bits))
def shrA (k : IntKind) (a b : Int) : Int := a.fdiv (2 ^ (min b.toNat k.bits))
def bitsA (op : BinOp) (k : IntKind) (x y : Int) : Option Int := match op, x, y with
  | .and, .ofNat a, .ofNat b => some (.ofNat (Nat.land a b))
  | .or, .ofNat a, .ofNat b => some (.ofNat (Nat.lor a b))
  | .xor, .ofNat a, .ofNat b => some (.ofNat (Nat.xor a b))
  | .andNot, .ofNat a, .ofNat b => some (.ofNat (Nat.xor a (Nat.land a b)))
  | _, _, _ => none
def fitsN (k : IntKind) (x : Int) : Bool := match x with
  | .ofNat a => Nat.ble a (maxOf k)
  | .negSucc _ => false
def isShift : BinOp → Bool
  | .shl | .shr => true
  | _ => false
def binA (E : Env) (op : BinOp) (xTy : Nat) (x y : AV) : M AV := match op, x, y with
  | .add, .int k a, .int k' b => match beqK k k' with
    | true => int k (wrapI k (a + b))
    | false => fail
  | .sub, .int k a, .int k' b => match beqK k k' with
    | true => int k (wrapI k (a - b))
    | false => fail
  | .mul, .int k a, .int k' b => match beqK k k' with
    | true => int k (wrapI k (a * b))
    | false => fail
  | .quo, .int k a, .int k' b => match beqK k k', beqI b 0 with
    | true, false => int k (wrapI k (a.tdiv b))
    | _, _ => fail
  | .rem, .int k a, .int k' b => match beqK k k', beqI b 0 with
    | true, false => int k (a.tmod b)
    | _, _ => fail
  | .shl, .int k a, .int _ (.ofNat b) => int k (shlA k a (.ofNat b))
  | .shr, .int k a, .int _ (.ofNat b) => int k (shrA k a (.ofNat b))
  | .lss, .int k a, .int k' b => match beqK k k' with
    | true => bool (ltI a b) ret
    | false => fail
  | .gtr, .int k a, .int k' b => match beqK k k' with
    | true => bool (ltI b a) ret
    | false => fail
  | .leq, .int k a, .int k' b => match beqK k k' with
    | true => bool (ltI b a) fun v => match v with | .bool r => bool (!r) ret | _ => fail
    | false => fail
  | .geq, .int k a, .int k' b => match beqK k k' with
    | true => bool (ltI a b) fun v => match v with | .bool r => bool (!r) ret | _ => fail
    | false => fail
  | .eql, .int k a, .int k' b => match beqK k k' with
    | true => bool (beqI a b) ret
    | false => fail
  | .neq, .int k a, .int k' b => match beqK k k' with
    | true => bool (!(beqI a b)) ret
    | false => fail
  | .add, .str a, .str b => match Nat.ble (a.length + b.length) 9223372036854775807 with
    | true => ret (.str (a ++ b))
    | false => fail
  | .eql, .str a, .str b => bool (beqB a b) ret
  | .neq, .str a, .str b => bool (!(beqB a b)) ret
  | .eql, x, y => match eqOk E xTy x, eqT E 50 xTy x y with
    | true, some b => bool b ret
    | _, _ => fail
  | .neq, x, y => match eqOk E xTy x, eqT E 50 xTy x y with
    | true, some b => bool (!b) ret
    | _, _ => fail
  | op, .int k a, .int k' b => match isShift op, beqK k k', fitsN k a, fitsN k b with
    | false, true, true, true => match bitsA op k a b with
      | some r => int k r
      | none => fail
    | _, _, _, _ => fail
  | _, _, _ => fail
def uns : IntKind → Bool
  | .u8 | .u16 | .u32 | .u64 => true
  | _ => false
def unA (op : UnOp) (x : AV) : M AV := match op, x with
  | .neg, .int k n => int k (wrapI k (0 - n))
  | .not, .bool b => bool (!b) ret
  | .xor, .int k n => match uns k, fitsN k n with
    | true, true => match bitsA .xor k (.ofNat (maxOf k)) n with
      | some r => int k r
      | none => fail
    | _, _ => fail
  | _, _ => fail
def bytesOf : List AV → Option (List UInt8)
  | [] => some []
  | .int .u8 n :: l => match bytesOf l with
    | none => none
    | some r => some (UInt8.ofNat n.toNat :: r)
  | _ :: _ => none
def u8List : List AV → Option (List UInt8)
  | [] => some []
  | v :: l => match v with
    | .int .u8 (.ofNat b) => match u8List l with
      | some r => some (UInt8.ofNat b :: r)
      | none => none
    | _ => none
def convA (E : Env) (src dst : Nat) (x : AV) : M AV := bnd (tyOf E src) fun ts => bnd (tyOf E dst) fun td => match td.desc, x with
  | .int k, .int _ n => int k (wrapI k n)
  | .string, .str s => ret (.str s)
  | .slice e, .slice i o len cap => match Nat.beq src dst with
    | true => bnd (tyOf E e) fun te => match te.desc with
      | .int .u8 => bnd (getRow i) fun _ => ret (.slice i o len cap)
      | _ => fail
    | false => fail
  | .string, .slice i o n cap => match ts.desc with
    | .slice e => bnd (tyOf E e) fun te => match te.desc with
      | .int .u8 => bnd (getRow i) fun r => match takeAll n (r.2.drop o) with
        | some l => match u8List l with
          | some bs => ret (.str bs)
          | none => fail
        | none => fail
      | _ => fail
    | _ => fail
  | .string, .nilslice => match ts.desc with
    | .slice e => bnd (tyOf E e) fun te => match te.desc with
      | .int .u8 => ret (.str [])
      | _ => fail
    | _ => fail
  | .slice e, .str b => match ts.desc with
    | .string => bnd (tyOf E e) fun te => match te.desc, Nat.ble ((2 * b.length + 192) * te.bytes) 281474976710656 with
      | .int .u8, true => strictN b.length fun n => grown 1 (somes (bytesAV b)) n
      | _, _ => fail
    | _ => fail
  | _, _ => fail

/-! ### maps, channels, builtins -/
def makeSliceA (E : Env) (ty : Nat) (len cap : AV) : M AV := bnd (tyOf E ty) fun ti => match ti.desc, len, cap with
  | .slice el, .int _ (.ofNat l), .int _ (.ofNat c) => bnd (tyOf E el) fun te => match Nat.ble l c, Nat.ble (te.bytes * c) 281474976710656, Nat.ble c 100000, Nat.blt 0 te.size with
    | true, true, true, true => bnd (newRowA te.size (repeatA c (cellsOf te.zero))) fun i => strictN l fun l' => strictN c fun c' => ret (.slice i 0 l' (.lit c'))
    | _, _, _, _ => fail
  | _, _, _ => fail
def findA (E : Env) (kt : Nat) (k : AV) : List (AV × AV × Nat) → Nat → Option (Option (Nat × AV))
  | [], _ => some none
  | (k', v, _) :: l, i => match eqT E 50 kt k k' with
    | some true => some (some (i, v))
    | some false => findA E kt k l (i + 1)
    | none => none
def putAt (v : AV) : List (AV × AV × Nat) → Nat → List (AV × AV × Nat)
  | [], _ => []
  | (k, _, b) :: l, 0 => (k, v, b) :: l
  | e :: l, i + 1 => e :: putAt v l i
mutual
def keyT (E : Env) : Nat → Nat → AV → Bool
  | 0, _, _ => false
  | d + 1, t, x => match E.ty t with
    | none => false
    | some ti => match ti.desc, x with
      | .struct fs, .agg xs => keyF E d fs.toList xs
      | .int _, .int _ _ => true
      | .string, .str _ => true
      | .bool, .bool _ => true
      | _, _ => false
def keyF (E : Env) : Nat → List Field → List AV → Bool
  | 0, _, _ => false
  | d + 1, fs, xs => match fs with
    | [] => true
    | f :: l => match partA E f.type xs f.offset with
      | some u => match keyT E d f.type u with
        | true => keyF E d l xs
        | false => false
      | none => false
end
/-- The same bits: what a key that is there already is replaced by. -/
def same1 : AV → AV → Bool
  | .bool true, .bool true => true
  | .bool false, .bool false => true
  | .int k a, .int k' b => match beqK k k' with
    | true => beqI a b
    | false => false
  | .str a, .str b => beqB a b
  | _, _ => false
def sameL : List AV → List AV → Bool
  | [], [] => true
  | a :: x, b :: y => match same1 a b with
    | true => sameL x y
    | false => false
  | _, _ => false
def sameA : AV → AV → Bool
  | .agg a, .agg b => sameL a b
  | a, b => same1 a b
def getMap (i : Nat) : M (List (AV × AV × Nat) × Nat) := bnd (getO i) fun o => match o with
  | .map es c => ret (es, c)
  | _ => fail
def lookupA (E : Env) (ty : Nat) (m k : AV) (ok : Bool) : M AV := bnd (tyOf E ty) fun ti => match ti.desc with
  | .map kt el => bnd (tyOf E el) fun te => match keyT E 50 kt k with
    | true => match m with
      | .nilmap => match ok with
        | true => ret (.tuple [te.zero, .bool false])
        | false => ret te.zero
      | .map i => bnd (getMap i) fun es => match findA E kt k es.1 0 with
        | some (some (_, v)) => match ok with
          | true => ret (.tuple [v, .bool true])
          | false => ret v
        | some none => match ok with
          | true => ret (.tuple [te.zero, .bool false])
          | false => ret te.zero
        | none => fail
      | _ => fail
    | false => fail
  | _ => fail
def keyAt : List (AV × AV × Nat) → Nat → Option AV
  | [], _ => none
  | (k, _, _) :: _, 0 => some k
  | _ :: l, i + 1 => keyAt l i
def mapUpdateA (E : Env) (ty : Nat) (m k v : AV) : M Unit := bnd (tyOf E ty) fun ti => match ti.desc with
  | .map kt _ => match keyT E 50 kt k with
    | true => match m with
      | .map i => bnd (getMap i) fun es => match findA E kt k es.1 0 with
        | some (some (j, _)) => match keyAt es.1 j with
          | some k' => match sameA k' k with
            | true => setO i (.map (putAt v es.1 j) es.2)
            | false => fail
          | none => fail
        | some none => strictN (es.2 + 1) fun c => setO i (.map (es.1 ++ [(k, v, es.2)]) c)
        | none => fail
      | _ => fail
    | false => fail
  | _ => fail
def dropAt : List (AV × AV × Nat) → Nat → List (AV × AV × Nat)
  | [], _ => []
  | _ :: l, 0 => l
  | e :: l, i + 1 => e :: dropAt l i
def deleteA (E : Env) (ty : Nat) (m k : AV) : M AV := bnd (tyOf E ty) fun ti => match ti.desc with
  | .map kt _ => match keyT E 50 kt k with
    | true => match m with
      | .map i => bnd (getMap i) fun es => match findA E kt k es.1 0 with
        | some (some (j, _)) => bnd (setO i (.map (dropAt es.1 j) es.2)) fun _ => ret undefA
        | some none => bnd (setO i (.map es.1 es.2)) fun _ => ret undefA
        | none => fail
      | _ => fail
    | false => fail
  | _ => fail
def makeChanA (E : Env) (ty : Nat) (n : AV) : M AV := bnd (tyOf E ty) fun ti => match ti.desc, n with
  | .chan _ el, .int _ (.ofNat c) => bnd (tyOf E el) fun te => match Nat.ble c 1000000, Nat.ble te.bytes 1000000 with
    | true, true => bnd (newO (.chan c [] 0 0)) fun i => ret (.chan i)
    | _, _ => fail
  | _, _ => fail
def lenOfA (E : Env) (ty : Nat) (x : AV) : M AV := bnd (tyOf E ty) fun ti => match ti.desc, x with
  | .string, .str s => strictN s.length fun n => ret (.int .i64 (.ofNat n))
  | .array n _, _ => strictN n fun n => ret (.int .i64 (.ofNat n))
  | .slice _, .slice _ _ n _ => strictN n fun n => ret (.int .i64 (.ofNat n))
  | .slice _, .nilslice => ret (.int .i64 0)
  | .slice _, .eslice _ _ _ _ => ret (.int .i64 0)
  | .map _ _, .nilmap => ret (.int .i64 0)
  | .map _ _, .map i => bnd (getMap i) fun es => strictN es.1.length fun n => ret (.int .i64 (.ofNat n))
  | .chan _ _, .nilchan => ret (.int .i64 0)
  | .chan _ _, .chan i => bnd (getO i) fun o => match o with
    | .chan _ buf _ _ => strictN buf.length fun n => ret (.int .i64 (.ofNat n))
    | _ => fail
  | _, _ => fail
def capOfA (E : Env) (ty : Nat) (x : AV) : M AV := bnd (tyOf E ty) fun ti => match ti.desc, x with
  | .slice _, .nilslice => ret (.int .i64 0)
  | .slice _, .slice _ _ _ (.lit c) => strictN c fun n => ret (.int .i64 (.ofNat n))
  | .chan _ _, .chan i => bnd (getO i) fun o => match o with
    | .chan c _ _ _ => strictN c fun n => ret (.int .i64 (.ofNat n))
    | _ => fail
  | _, _ => fail
def copyA (E : Env) (ty : Nat) (dst src : AV) : M AV := bnd (tyOf E ty) fun ti => match ti.desc with
  | .slice el => bnd (tyOf E el) fun te => match lenA dst, lenA src with
    | some d, some n => bnd (firstA te.size (Nat.min n d) src) fun cs => match dst with
      | .slice i o _ _ => bnd (storeCellsA i o cs) fun _ => strictN (Nat.min n d) fun m => ret (.int .i64 (.ofNat m))
      | .nilslice => ret (.int .i64 0)
      | .eslice _ _ _ _ => ret (.int .i64 0)
      | _ => fail
    | _, _ => fail
  | _ => fail
def clearA (E : Env) (ty : Nat) (x : AV) : M AV := bnd (tyOf E ty) fun ti => match ti.desc, x with
  | .map _ _, .nilmap => ret undefA
  | .map _ _, .map i => bnd (getMap i) fun es => bnd (setO i (.map [] es.2)) fun _ => ret undefA
  | .slice _, .nilslice => ret undefA
  | .slice _, .eslice _ _ _ _ => ret undefA
  | .slice el, .slice i o n _ => match n with
    | 0 => ret undefA
    | _ + 1 => bnd (tyOf E el) fun te => match Nat.blt 0 te.size with
      | true => bnd (storeCellsA i o (repeatA n (cellsOf te.zero))) fun _ => ret undefA
      | false => fail
  | _, _ => fail
def max2A (mx : Bool) (x y : AV) : Option AV := match x, y with
  | .int k a, .int k' b => match beqK k k' with
    | true => match mx, ltI a b with
      | true, true => some (.int k b)
      | true, false => some (.int k a)
      | false, true => some (.int k a)
      | false, false => some (.int k b)
    | false => none
  | _, _ => none
def maxF (mx : Bool) : AV → List AV → Option AV
  | x, [] => some x
  | x, y :: l => match max2A mx x y with
    | some z => maxF mx z l
    | none => none
end Go.Aex
