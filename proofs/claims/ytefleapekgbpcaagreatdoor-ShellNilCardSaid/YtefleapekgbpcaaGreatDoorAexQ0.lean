/- The executor's words in a form that is cheap for the kernel (0): printed by Opt.lean. -/
import Derived.Test.YtefleapekgbpcaaGreatDoorAexC
import Derived.KernelRfl
set_option linter.unusedVariables false
set_option linter.unusedSimpArgs false
namespace Go.Aex
def c_List {α : Type} {R : Type} (t : (List α)) (h0 : R) (h1 : (α → ((List α) → R))) : R := (@List.casesOn.{1, 0} α (fun _ => R) t h0 h1)
theorem D_List_0 {α : Type} {R : Type} (h0 : R) (h1 : (α → ((List α) → R)))  : c_List (@List.nil α) h0 h1 = h0  := rfl
theorem D_List_1 {α : Type} {R : Type} (h0 : R) (h1 : (α → ((List α) → R))) (f0 : α) (f1 : (List α)) : c_List (@List.cons α f0 f1) h0 h1 = h1 f0 f1 := rfl
theorem A_List {α : Type} {R : Type} (h0 : R) (h1 : (α → ((List α) → R))) (t : (List α)) : (@List.rec.{1, 0} α (fun _ => R) h0 (fun a b _ => (h1 a b)) t) = (c_List t h0 h1) := by cases t <;> rfl
theorem B_List {α : Type} {R K : Type} (h0 : (K → R)) (h1 : (α → ((List α) → (K → R)))) (t : (List α)) (k : K) : (c_List t h0 h1) k = (c_List t (h0 k) (fun a b => (h1 a b k))) := by cases t <;> rfl
def c_Nat {R : Type} (t : Nat) (h0 : R) (h1 : (Nat → R)) : R := (@Nat.casesOn.{1} (fun _ => R) t h0 h1)
theorem D_Nat_0 {R : Type} (h0 : R) (h1 : (Nat → R))  : c_Nat (@Nat.zero) h0 h1 = h0  := rfl
theorem D_Nat_1 {R : Type} (h0 : R) (h1 : (Nat → R)) (f0 : Nat) : c_Nat (@Nat.succ f0) h0 h1 = h1 f0 := rfl
theorem A_Nat {R : Type} (h0 : R) (h1 : (Nat → R)) (t : Nat) : (@Nat.rec.{1} (fun _ => R) h0 (fun a _ => (h1 a)) t) = (c_Nat t h0 h1) := by cases t <;> rfl
theorem B_Nat {R K : Type} (h0 : (K → R)) (h1 : (Nat → (K → R))) (t : Nat) (k : K) : (c_Nat t h0 h1) k = (c_Nat t (h0 k) (fun a => (h1 a k))) := by cases t <;> rfl
def c_T {α : Type} {R : Type} (t : (T α)) (h0 : R) (h1 : ((Option α) → ((T α) → ((T α) → ((T α) → ((T α) → ((T α) → ((T α) → ((T α) → ((T α) → R)))))))))) : R := (@T.casesOn.{1} α (fun _ => R) t h0 h1)
theorem D_T_0 {α : Type} {R : Type} (h0 : R) (h1 : ((Option α) → ((T α) → ((T α) → ((T α) → ((T α) → ((T α) → ((T α) → ((T α) → ((T α) → R))))))))))  : c_T (@T.nil α) h0 h1 = h0  := rfl
theorem D_T_1 {α : Type} {R : Type} (h0 : R) (h1 : ((Option α) → ((T α) → ((T α) → ((T α) → ((T α) → ((T α) → ((T α) → ((T α) → ((T α) → R)))))))))) (f0 : (Option α)) (f1 : (T α)) (f2 : (T α)) (f3 : (T α)) (f4 : (T α)) (f5 : (T α)) (f6 : (T α)) (f7 : (T α)) (f8 : (T α)) : c_T (@T.node α f0 f1 f2 f3 f4 f5 f6 f7 f8) h0 h1 = h1 f0 f1 f2 f3 f4 f5 f6 f7 f8 := rfl
theorem A_T {α : Type} {R : Type} (h0 : R) (h1 : ((Option α) → ((T α) → ((T α) → ((T α) → ((T α) → ((T α) → ((T α) → ((T α) → ((T α) → R)))))))))) (t : (T α)) : (@T.rec.{1} α (fun _ => R) h0 (fun a b c d e f g h i _ _ _ _ _ _ _ _ => (h1 a b c d e f g h i)) t) = (c_T t h0 h1) := by cases t <;> rfl
theorem B_T {α : Type} {R K : Type} (h0 : (K → R)) (h1 : ((Option α) → ((T α) → ((T α) → ((T α) → ((T α) → ((T α) → ((T α) → ((T α) → ((T α) → (K → R))))))))))) (t : (T α)) (k : K) : (c_T t h0 h1) k = (c_T t (h0 k) (fun a b c d e f g h i => (h1 a b c d e f g h i k))) := by cases t <;> rfl
def c_D {R : Type} (t : D) (h0 : R) (h1 : R) (h2 : R) (h3 : R) (h4 : R) (h5 : R) (h6 : R) (h7 : R) : R := (@D.casesOn.{1} (fun _ => R) t h0 h1 h2 h3 h4 h5 h6 h7)
theorem A_D {R : Type} (h0 : R) (h1 : R) (h2 : R) (h3 : R) (h4 : R) (h5 : R) (h6 : R) (h7 : R) (t : D) : (@D.rec.{1} (fun _ => R) h0 h1 h2 h3 h4 h5 h6 h7 t) = (c_D t h0 h1 h2 h3 h4 h5 h6 h7) := by cases t <;> rfl
theorem B_D {R K : Type} (h0 : (K → R)) (h1 : (K → R)) (h2 : (K → R)) (h3 : (K → R)) (h4 : (K → R)) (h5 : (K → R)) (h6 : (K → R)) (h7 : (K → R)) (t : D) (k : K) : (c_D t h0 h1 h2 h3 h4 h5 h6 h7) k = (c_D t (h0 k) (h1 k) (h2 k) (h3 k) (h4 k) (h5 k) (h6 k) (h7 k)) := by cases t <;> rfl
def c_Option {α : Type} {R : Type} (t : (Option α)) (h0 : R) (h1 : (α → R)) : R := (@Option.casesOn.{1, 0} α (fun _ => R) t h0 h1)
theorem D_Option_0 {α : Type} {R : Type} (h0 : R) (h1 : (α → R))  : c_Option (@Option.none α) h0 h1 = h0  := rfl
theorem D_Option_1 {α : Type} {R : Type} (h0 : R) (h1 : (α → R)) (f0 : α) : c_Option (@Option.some α f0) h0 h1 = h1 f0 := rfl
theorem A_Option {α : Type} {R : Type} (h0 : R) (h1 : (α → R)) (t : (Option α)) : (@Option.rec.{1, 0} α (fun _ => R) h0 (fun a => (h1 a)) t) = (c_Option t h0 h1) := by cases t <;> rfl
theorem B_Option {α : Type} {R K : Type} (h0 : (K → R)) (h1 : (α → (K → R))) (t : (Option α)) (k : K) : (c_Option t h0 h1) k = (c_Option t (h0 k) (fun a => (h1 a k))) := by cases t <;> rfl
def c_Prod {α : Type} {β : Type} {R : Type} (t : (Prod α β)) (h0 : (α → (β → R))) : R := (@Prod.casesOn.{1, 0, 0} α β (fun _ => R) t h0)
theorem D_Prod_0 {α : Type} {β : Type} {R : Type} (h0 : (α → (β → R))) (f0 : α) (f1 : β) : c_Prod (@Prod.mk α β f0 f1) h0 = h0 f0 f1 := rfl
theorem A_Prod {α : Type} {β : Type} {R : Type} (h0 : (α → (β → R))) (t : (Prod α β)) : (@Prod.rec.{1, 0, 0} α β (fun _ => R) (fun a b => (h0 a b)) t) = (c_Prod t h0) := by cases t <;> rfl
theorem B_Prod {α : Type} {β : Type} {R K : Type} (h0 : (α → (β → (K → R)))) (t : (Prod α β)) (k : K) : (c_Prod t h0) k = (c_Prod t (fun a b => (h0 a b k))) := by cases t <;> rfl
def c_AV {R : Type} (t : AV) (h0 : (Bool → R)) (h1 : (IntKind → (Int → R))) (h2 : ((List UInt8) → R)) (h3 : (Nat → (Nat → R))) (h4 : R) (h5 : (Nat → (Nat → (Nat → (ACap → R))))) (h6 : (Nat → (Nat → (Nat → (Nat → R))))) (h7 : R) (h8 : (Nat → R)) (h9 : R) (h10 : (Nat → R)) (h11 : R) (h12 : (Fn → ((List AV) → ((List AV) → R)))) (h13 : (Nat → R)) (h14 : R) (h15 : (TypeId → (AV → R))) (h16 : R) (h17 : ((List AV) → R)) (h18 : ((List AV) → R)) (h19 : (Value → R)) : R := (@AV.casesOn.{1} (fun _ => R) t h0 h1 h2 h3 h4 h5 h6 h7 h8 h9 h10 h11 h12 h13 h14 h15 h16 h17 h18 h19)
theorem A_AV {R : Type} (h0 : (Bool → R)) (h1 : (IntKind → (Int → R))) (h2 : ((List UInt8) → R)) (h3 : (Nat → (Nat → R))) (h4 : R) (h5 : (Nat → (Nat → (Nat → (ACap → R))))) (h6 : (Nat → (Nat → (Nat → (Nat → R))))) (h7 : R) (h8 : (Nat → R)) (h9 : R) (h10 : (Nat → R)) (h11 : R) (h12 : (Fn → ((List AV) → ((List AV) → R)))) (h13 : (Nat → R)) (h14 : R) (h15 : (TypeId → (AV → R))) (h16 : R) (h17 : ((List AV) → R)) (h18 : ((List AV) → R)) (h19 : (Value → R)) (t : AV) : (@AV.rec.{1} (fun _ => R) (fun _ => PUnit.{1}) (fun a => (h0 a)) (fun a b => (h1 a b)) (fun a => (h2 a)) (fun a b => (h3 a b)) h4 (fun a b c d => (h5 a b c d)) (fun a b c d => (h6 a b c d)) h7 (fun a => (h8 a)) h9 (fun a => (h10 a)) h11 (fun a b c _ _ => (h12 a b c)) (fun a => (h13 a)) h14 (fun a b _ => (h15 a b)) h16 (fun a _ => (h17 a)) (fun a _ => (h18 a)) (fun a => (h19 a)) PUnit.unit.{1} (fun _ _ _ _ => PUnit.unit.{1}) t) = (c_AV t h0 h1 h2 h3 h4 h5 h6 h7 h8 h9 h10 h11 h12 h13 h14 h15 h16 h17 h18 h19) := by cases t <;> rfl
theorem B_AV {R K : Type} (h0 : (Bool → (K → R))) (h1 : (IntKind → (Int → (K → R)))) (h2 : ((List UInt8) → (K → R))) (h3 : (Nat → (Nat → (K → R)))) (h4 : (K → R)) (h5 : (Nat → (Nat → (Nat → (ACap → (K → R)))))) (h6 : (Nat → (Nat → (Nat → (Nat → (K → R)))))) (h7 : (K → R)) (h8 : (Nat → (K → R))) (h9 : (K → R)) (h10 : (Nat → (K → R))) (h11 : (K → R)) (h12 : (Fn → ((List AV) → ((List AV) → (K → R))))) (h13 : (Nat → (K → R))) (h14 : (K → R)) (h15 : (TypeId → (AV → (K → R)))) (h16 : (K → R)) (h17 : ((List AV) → (K → R))) (h18 : ((List AV) → (K → R))) (h19 : (Value → (K → R))) (t : AV) (k : K) : (c_AV t h0 h1 h2 h3 h4 h5 h6 h7 h8 h9 h10 h11 h12 h13 h14 h15 h16 h17 h18 h19) k = (c_AV t (fun a => (h0 a k)) (fun a b => (h1 a b k)) (fun a => (h2 a k)) (fun a b => (h3 a b k)) (h4 k) (fun a b c d => (h5 a b c d k)) (fun a b c d => (h6 a b c d k)) (h7 k) (fun a => (h8 a k)) (h9 k) (fun a => (h10 a k)) (h11 k) (fun a b c => (h12 a b c k)) (fun a => (h13 a k)) (h14 k) (fun a b => (h15 a b k)) (h16 k) (fun a => (h17 a k)) (fun a => (h18 a k)) (fun a => (h19 a k))) := by cases t <;> rfl
def c_Bool {R : Type} (t : Bool) (h0 : R) (h1 : R) : R := (@Bool.casesOn.{1} (fun _ => R) t h0 h1)
theorem D_Bool_0 {R : Type} (h0 : R) (h1 : R)  : c_Bool (@Bool.false) h0 h1 = h0  := rfl
theorem D_Bool_1 {R : Type} (h0 : R) (h1 : R)  : c_Bool (@Bool.true) h0 h1 = h1  := rfl
theorem A_Bool {R : Type} (h0 : R) (h1 : R) (t : Bool) : (@Bool.rec.{1} (fun _ => R) h0 h1 t) = (c_Bool t h0 h1) := by cases t <;> rfl
theorem B_Bool {R K : Type} (h0 : (K → R)) (h1 : (K → R)) (t : Bool) (k : K) : (c_Bool t h0 h1) k = (c_Bool t (h0 k) (h1 k)) := by cases t <;> rfl
def c_Value {R : Type} (t : Value) (h0 : (Bool → R)) (h1 : (IntKind → (Int → R))) (h2 : (FloatKind → (Nat → R))) (h3 : (FloatKind → (Nat → (Nat → R)))) (h4 : (ByteArray → R)) (h5 : ((Option Addr) → R)) (h6 : ((Option Addr) → (Nat → (Nat → R)))) (h7 : ((Option Nat) → R)) (h8 : ((Option Nat) → R)) (h9 : (Fn → ((Array Value) → ((Array Value) → R)))) (h10 : R) (h11 : (TypeId → (Value → R))) (h12 : R) (h13 : ((Array Value) → R)) (h14 : ((Array Value) → R)) : R := (@Value.casesOn.{1} (fun _ => R) t h0 h1 h2 h3 h4 h5 h6 h7 h8 h9 h10 h11 h12 h13 h14)
theorem A_Value {R : Type} (h0 : (Bool → R)) (h1 : (IntKind → (Int → R))) (h2 : (FloatKind → (Nat → R))) (h3 : (FloatKind → (Nat → (Nat → R)))) (h4 : (ByteArray → R)) (h5 : ((Option Addr) → R)) (h6 : ((Option Addr) → (Nat → (Nat → R)))) (h7 : ((Option Nat) → R)) (h8 : ((Option Nat) → R)) (h9 : (Fn → ((Array Value) → ((Array Value) → R)))) (h10 : R) (h11 : (TypeId → (Value → R))) (h12 : R) (h13 : ((Array Value) → R)) (h14 : ((Array Value) → R)) (t : Value) : (@Value.rec.{1} (fun _ => R) (fun _ => PUnit.{1}) (fun _ => PUnit.{1}) (fun a => (h0 a)) (fun a b => (h1 a b)) (fun a b => (h2 a b)) (fun a b c => (h3 a b c)) (fun a => (h4 a)) (fun a => (h5 a)) (fun a b c => (h6 a b c)) (fun a => (h7 a)) (fun a => (h8 a)) (fun a b c _ _ => (h9 a b c)) h10 (fun a b _ => (h11 a b)) h12 (fun a _ => (h13 a)) (fun a _ => (h14 a)) (fun _ _ => PUnit.unit.{1}) PUnit.unit.{1} (fun _ _ _ _ => PUnit.unit.{1}) t) = (c_Value t h0 h1 h2 h3 h4 h5 h6 h7 h8 h9 h10 h11 h12 h13 h14) := by cases t <;> rfl
theorem B_Value {R K : Type} (h0 : (Bool → (K → R))) (h1 : (IntKind → (Int → (K → R)))) (h2 : (FloatKind → (Nat → (K → R)))) (h3 : (FloatKind → (Nat → (Nat → (K → R))))) (h4 : (ByteArray → (K → R))) (h5 : ((Option Addr) → (K → R))) (h6 : ((Option Addr) → (Nat → (Nat → (K → R))))) (h7 : ((Option Nat) → (K → R))) (h8 : ((Option Nat) → (K → R))) (h9 : (Fn → ((Array Value) → ((Array Value) → (K → R))))) (h10 : (K → R)) (h11 : (TypeId → (Value → (K → R)))) (h12 : (K → R)) (h13 : ((Array Value) → (K → R))) (h14 : ((Array Value) → (K → R))) (t : Value) (k : K) : (c_Value t h0 h1 h2 h3 h4 h5 h6 h7 h8 h9 h10 h11 h12 h13 h14) k = (c_Value t (fun a => (h0 a k)) (fun a b => (h1 a b k)) (fun a b => (h2 a b k)) (fun a b c => (h3 a b c k)) (fun a => (h4 a k)) (fun a => (h5 a k)) (fun a b c => (h6 a b c k)) (fun a => (h7 a k)) (fun a => (h8 a k)) (fun a b c => (h9 a b c k)) (h10 k) (fun a b => (h11 a b k)) (h12 k) (fun a => (h13 a k)) (fun a => (h14 a k))) := by cases t <;> rfl
def c_Operand {R : Type} (t : Operand) (h0 : (Tmp → R)) (h1 : (Value → R)) (h2 : (Nat → R)) (h3 : (FuncId → R)) : R := (@Operand.casesOn.{1} (fun _ => R) t h0 h1 h2 h3)
theorem D_Operand_0 {R : Type} (h0 : (Tmp → R)) (h1 : (Value → R)) (h2 : (Nat → R)) (h3 : (FuncId → R)) (f0 : Tmp) : c_Operand (@Operand.tmp f0) h0 h1 h2 h3 = h0 f0 := rfl
theorem D_Operand_1 {R : Type} (h0 : (Tmp → R)) (h1 : (Value → R)) (h2 : (Nat → R)) (h3 : (FuncId → R)) (f0 : Value) : c_Operand (@Operand.const f0) h0 h1 h2 h3 = h1 f0 := rfl
theorem D_Operand_2 {R : Type} (h0 : (Tmp → R)) (h1 : (Value → R)) (h2 : (Nat → R)) (h3 : (FuncId → R)) (f0 : Nat) : c_Operand (@Operand.global f0) h0 h1 h2 h3 = h2 f0 := rfl
theorem D_Operand_3 {R : Type} (h0 : (Tmp → R)) (h1 : (Value → R)) (h2 : (Nat → R)) (h3 : (FuncId → R)) (f0 : FuncId) : c_Operand (@Operand.func f0) h0 h1 h2 h3 = h3 f0 := rfl
theorem A_Operand {R : Type} (h0 : (Tmp → R)) (h1 : (Value → R)) (h2 : (Nat → R)) (h3 : (FuncId → R)) (t : Operand) : (@Operand.rec.{1} (fun _ => R) (fun a => (h0 a)) (fun a => (h1 a)) (fun a => (h2 a)) (fun a => (h3 a)) t) = (c_Operand t h0 h1 h2 h3) := by cases t <;> rfl
theorem B_Operand {R K : Type} (h0 : (Tmp → (K → R))) (h1 : (Value → (K → R))) (h2 : (Nat → (K → R))) (h3 : (FuncId → (K → R))) (t : Operand) (k : K) : (c_Operand t h0 h1 h2 h3) k = (c_Operand t (fun a => (h0 a k)) (fun a => (h1 a k)) (fun a => (h2 a k)) (fun a => (h3 a k))) := by cases t <;> rfl
def c_St {R : Type} (t : St) (h0 : ((T AObj) → (Nat → (Ks → (Ks → R))))) : R := (@St.casesOn.{1} (fun _ => R) t h0)
theorem D_St_0 {R : Type} (h0 : ((T AObj) → (Nat → (Ks → (Ks → R))))) (f0 : (T AObj)) (f1 : Nat) (f2 : Ks) (f3 : Ks) : c_St (@St.mk f0 f1 f2 f3) h0 = h0 f0 f1 f2 f3 := rfl
theorem A_St {R : Type} (h0 : ((T AObj) → (Nat → (Ks → (Ks → R))))) (t : St) : (@St.rec.{1} (fun _ => R) (fun a b c d => (h0 a b c d)) t) = (c_St t h0) := by cases t <;> rfl
theorem B_St {R K : Type} (h0 : ((T AObj) → (Nat → (Ks → (Ks → (K → R)))))) (t : St) (k : K) : (c_St t h0) k = (c_St t (fun a b c d => (h0 a b c d k))) := by cases t <;> rfl
def c_TypeDesc {R : Type} (t : TypeDesc) (h0 : R) (h1 : R) (h2 : (IntKind → R)) (h3 : (FloatKind → R)) (h4 : (FloatKind → R)) (h5 : R) (h6 : R) (h7 : (TypeId → R)) (h8 : (TypeId → R)) (h9 : (Nat → (TypeId → R))) (h10 : (TypeId → (TypeId → R))) (h11 : (ChanDir → (TypeId → R))) (h12 : ((Array Field) → R)) (h13 : ((Array TypeId) → ((Array TypeId) → (Bool → R)))) (h14 : ((Array (Prod String TypeId)) → R)) (h15 : ((Array TypeId) → R)) (h16 : (String → (TypeId → R))) : R := (@TypeDesc.casesOn.{1} (fun _ => R) t h0 h1 h2 h3 h4 h5 h6 h7 h8 h9 h10 h11 h12 h13 h14 h15 h16)
theorem A_TypeDesc {R : Type} (h0 : R) (h1 : R) (h2 : (IntKind → R)) (h3 : (FloatKind → R)) (h4 : (FloatKind → R)) (h5 : R) (h6 : R) (h7 : (TypeId → R)) (h8 : (TypeId → R)) (h9 : (Nat → (TypeId → R))) (h10 : (TypeId → (TypeId → R))) (h11 : (ChanDir → (TypeId → R))) (h12 : ((Array Field) → R)) (h13 : ((Array TypeId) → ((Array TypeId) → (Bool → R)))) (h14 : ((Array (Prod String TypeId)) → R)) (h15 : ((Array TypeId) → R)) (h16 : (String → (TypeId → R))) (t : TypeDesc) : (@TypeDesc.rec.{1} (fun _ => R) h0 h1 (fun a => (h2 a)) (fun a => (h3 a)) (fun a => (h4 a)) h5 h6 (fun a => (h7 a)) (fun a => (h8 a)) (fun a b => (h9 a b)) (fun a b => (h10 a b)) (fun a b => (h11 a b)) (fun a => (h12 a)) (fun a b c => (h13 a b c)) (fun a => (h14 a)) (fun a => (h15 a)) (fun a b => (h16 a b)) t) = (c_TypeDesc t h0 h1 h2 h3 h4 h5 h6 h7 h8 h9 h10 h11 h12 h13 h14 h15 h16) := by cases t <;> rfl
theorem B_TypeDesc {R K : Type} (h0 : (K → R)) (h1 : (K → R)) (h2 : (IntKind → (K → R))) (h3 : (FloatKind → (K → R))) (h4 : (FloatKind → (K → R))) (h5 : (K → R)) (h6 : (K → R)) (h7 : (TypeId → (K → R))) (h8 : (TypeId → (K → R))) (h9 : (Nat → (TypeId → (K → R)))) (h10 : (TypeId → (TypeId → (K → R)))) (h11 : (ChanDir → (TypeId → (K → R)))) (h12 : ((Array Field) → (K → R))) (h13 : ((Array TypeId) → ((Array TypeId) → (Bool → (K → R))))) (h14 : ((Array (Prod String TypeId)) → (K → R))) (h15 : ((Array TypeId) → (K → R))) (h16 : (String → (TypeId → (K → R)))) (t : TypeDesc) (k : K) : (c_TypeDesc t h0 h1 h2 h3 h4 h5 h6 h7 h8 h9 h10 h11 h12 h13 h14 h15 h16) k = (c_TypeDesc t (h0 k) (h1 k) (fun a => (h2 a k)) (fun a => (h3 a k)) (fun a => (h4 a k)) (h5 k) (h6 k) (fun a => (h7 a k)) (fun a => (h8 a k)) (fun a b => (h9 a b k)) (fun a b => (h10 a b k)) (fun a b => (h11 a b k)) (fun a => (h12 a k)) (fun a b c => (h13 a b c k)) (fun a => (h14 a k)) (fun a => (h15 a k)) (fun a b => (h16 a b k))) := by cases t <;> rfl
def c_IntKind {R : Type} (t : IntKind) (h0 : R) (h1 : R) (h2 : R) (h3 : R) (h4 : R) (h5 : R) (h6 : R) (h7 : R) : R := (@IntKind.casesOn.{1} (fun _ => R) t h0 h1 h2 h3 h4 h5 h6 h7)
theorem A_IntKind {R : Type} (h0 : R) (h1 : R) (h2 : R) (h3 : R) (h4 : R) (h5 : R) (h6 : R) (h7 : R) (t : IntKind) : (@IntKind.rec.{1} (fun _ => R) h0 h1 h2 h3 h4 h5 h6 h7 t) = (c_IntKind t h0 h1 h2 h3 h4 h5 h6 h7) := by cases t <;> rfl
theorem B_IntKind {R K : Type} (h0 : (K → R)) (h1 : (K → R)) (h2 : (K → R)) (h3 : (K → R)) (h4 : (K → R)) (h5 : (K → R)) (h6 : (K → R)) (h7 : (K → R)) (t : IntKind) (k : K) : (c_IntKind t h0 h1 h2 h3 h4 h5 h6 h7) k = (c_IntKind t (h0 k) (h1 k) (h2 k) (h3 k) (h4 k) (h5 k) (h6 k) (h7 k)) := by cases t <;> rfl
def c_Int {R : Type} (t : Int) (h0 : (Nat → R)) (h1 : (Nat → R)) : R := (@Int.casesOn.{1} (fun _ => R) t h0 h1)
theorem D_Int_0 {R : Type} (h0 : (Nat → R)) (h1 : (Nat → R)) (f0 : Nat) : c_Int (@Int.ofNat f0) h0 h1 = h0 f0 := rfl
theorem D_Int_1 {R : Type} (h0 : (Nat → R)) (h1 : (Nat → R)) (f0 : Nat) : c_Int (@Int.negSucc f0) h0 h1 = h1 f0 := rfl
theorem A_Int {R : Type} (h0 : (Nat → R)) (h1 : (Nat → R)) (t : Int) : (@Int.rec.{1} (fun _ => R) (fun a => (h0 a)) (fun a => (h1 a)) t) = (c_Int t h0 h1) := by cases t <;> rfl
theorem B_Int {R K : Type} (h0 : (Nat → (K → R))) (h1 : (Nat → (K → R))) (t : Int) (k : K) : (c_Int t h0 h1) k = (c_Int t (fun a => (h0 a k)) (fun a => (h1 a k))) := by cases t <;> rfl
def c_AObj {R : Type} (t : AObj) (h0 : R) (h1 : (Nat → ((List (Option AV)) → R))) (h2 : ((List (Prod AV (Prod AV Nat))) → (Nat → R))) (h3 : (Nat → ((List AV) → (Nat → (Nat → R))))) (h4 : R) (h5 : (Nat → ((T AV) → ((List Nat) → (Code → (Code → (LSt → R))))))) : R := (@AObj.casesOn.{1} (fun _ => R) t h0 h1 h2 h3 h4 h5)
theorem D_AObj_0 {R : Type} (h0 : R) (h1 : (Nat → ((List (Option AV)) → R))) (h2 : ((List (Prod AV (Prod AV Nat))) → (Nat → R))) (h3 : (Nat → ((List AV) → (Nat → (Nat → R))))) (h4 : R) (h5 : (Nat → ((T AV) → ((List Nat) → (Code → (Code → (LSt → R)))))))  : c_AObj (@AObj.dead) h0 h1 h2 h3 h4 h5 = h0  := rfl
theorem D_AObj_1 {R : Type} (h0 : R) (h1 : (Nat → ((List (Option AV)) → R))) (h2 : ((List (Prod AV (Prod AV Nat))) → (Nat → R))) (h3 : (Nat → ((List AV) → (Nat → (Nat → R))))) (h4 : R) (h5 : (Nat → ((T AV) → ((List Nat) → (Code → (Code → (LSt → R))))))) (f0 : Nat) (f1 : (List (Option AV))) : c_AObj (@AObj.row f0 f1) h0 h1 h2 h3 h4 h5 = h1 f0 f1 := rfl
theorem D_AObj_2 {R : Type} (h0 : R) (h1 : (Nat → ((List (Option AV)) → R))) (h2 : ((List (Prod AV (Prod AV Nat))) → (Nat → R))) (h3 : (Nat → ((List AV) → (Nat → (Nat → R))))) (h4 : R) (h5 : (Nat → ((T AV) → ((List Nat) → (Code → (Code → (LSt → R))))))) (f0 : (List (Prod AV (Prod AV Nat)))) (f1 : Nat) : c_AObj (@AObj.map f0 f1) h0 h1 h2 h3 h4 h5 = h2 f0 f1 := rfl
theorem D_AObj_3 {R : Type} (h0 : R) (h1 : (Nat → ((List (Option AV)) → R))) (h2 : ((List (Prod AV (Prod AV Nat))) → (Nat → R))) (h3 : (Nat → ((List AV) → (Nat → (Nat → R))))) (h4 : R) (h5 : (Nat → ((T AV) → ((List Nat) → (Code → (Code → (LSt → R))))))) (f0 : Nat) (f1 : (List AV)) (f2 : Nat) (f3 : Nat) : c_AObj (@AObj.chan f0 f1 f2 f3) h0 h1 h2 h3 h4 h5 = h3 f0 f1 f2 f3 := rfl
theorem D_AObj_4 {R : Type} (h0 : R) (h1 : (Nat → ((List (Option AV)) → R))) (h2 : ((List (Prod AV (Prod AV Nat))) → (Nat → R))) (h3 : (Nat → ((List AV) → (Nat → (Nat → R))))) (h4 : R) (h5 : (Nat → ((T AV) → ((List Nat) → (Code → (Code → (LSt → R)))))))  : c_AObj (@AObj.defd) h0 h1 h2 h3 h4 h5 = h4  := rfl
theorem D_AObj_5 {R : Type} (h0 : R) (h1 : (Nat → ((List (Option AV)) → R))) (h2 : ((List (Prod AV (Prod AV Nat))) → (Nat → R))) (h3 : (Nat → ((List AV) → (Nat → (Nat → R))))) (h4 : R) (h5 : (Nat → ((T AV) → ((List Nat) → (Code → (Code → (LSt → R))))))) (f0 : Nat) (f1 : (T AV)) (f2 : (List Nat)) (f3 : Code) (f4 : Code) (f5 : LSt) : c_AObj (@AObj.loop f0 f1 f2 f3 f4 f5) h0 h1 h2 h3 h4 h5 = h5 f0 f1 f2 f3 f4 f5 := rfl
theorem A_AObj {R : Type} (h0 : R) (h1 : (Nat → ((List (Option AV)) → R))) (h2 : ((List (Prod AV (Prod AV Nat))) → (Nat → R))) (h3 : (Nat → ((List AV) → (Nat → (Nat → R))))) (h4 : R) (h5 : (Nat → ((T AV) → ((List Nat) → (Code → (Code → (LSt → R))))))) (t : AObj) : (@AObj.rec.{1} (fun _ => R) h0 (fun a b => (h1 a b)) (fun a b => (h2 a b)) (fun a b c d => (h3 a b c d)) h4 (fun a b c d e f => (h5 a b c d e f)) t) = (c_AObj t h0 h1 h2 h3 h4 h5) := by cases t <;> rfl
theorem B_AObj {R K : Type} (h0 : (K → R)) (h1 : (Nat → ((List (Option AV)) → (K → R)))) (h2 : ((List (Prod AV (Prod AV Nat))) → (Nat → (K → R)))) (h3 : (Nat → ((List AV) → (Nat → (Nat → (K → R)))))) (h4 : (K → R)) (h5 : (Nat → ((T AV) → ((List Nat) → (Code → (Code → (LSt → (K → R)))))))) (t : AObj) (k : K) : (c_AObj t h0 h1 h2 h3 h4 h5) k = (c_AObj t (h0 k) (fun a b => (h1 a b k)) (fun a b => (h2 a b k)) (fun a b c d => (h3 a b c d k)) (h4 k) (fun a b c d e f => (h5 a b c d e f k))) := by cases t <;> rfl
def c_BinOp {R : Type} (t : BinOp) (h0 : R) (h1 : R) (h2 : R) (h3 : R) (h4 : R) (h5 : R) (h6 : R) (h7 : R) (h8 : R) (h9 : R) (h10 : R) (h11 : R) (h12 : R) (h13 : R) (h14 : R) (h15 : R) (h16 : R) : R := (@BinOp.casesOn.{1} (fun _ => R) t h0 h1 h2 h3 h4 h5 h6 h7 h8 h9 h10 h11 h12 h13 h14 h15 h16)
theorem A_BinOp {R : Type} (h0 : R) (h1 : R) (h2 : R) (h3 : R) (h4 : R) (h5 : R) (h6 : R) (h7 : R) (h8 : R) (h9 : R) (h10 : R) (h11 : R) (h12 : R) (h13 : R) (h14 : R) (h15 : R) (h16 : R) (t : BinOp) : (@BinOp.rec.{1} (fun _ => R) h0 h1 h2 h3 h4 h5 h6 h7 h8 h9 h10 h11 h12 h13 h14 h15 h16 t) = (c_BinOp t h0 h1 h2 h3 h4 h5 h6 h7 h8 h9 h10 h11 h12 h13 h14 h15 h16) := by cases t <;> rfl
theorem B_BinOp {R K : Type} (h0 : (K → R)) (h1 : (K → R)) (h2 : (K → R)) (h3 : (K → R)) (h4 : (K → R)) (h5 : (K → R)) (h6 : (K → R)) (h7 : (K → R)) (h8 : (K → R)) (h9 : (K → R)) (h10 : (K → R)) (h11 : (K → R)) (h12 : (K → R)) (h13 : (K → R)) (h14 : (K → R)) (h15 : (K → R)) (h16 : (K → R)) (t : BinOp) (k : K) : (c_BinOp t h0 h1 h2 h3 h4 h5 h6 h7 h8 h9 h10 h11 h12 h13 h14 h15 h16) k = (c_BinOp t (h0 k) (h1 k) (h2 k) (h3 k) (h4 k) (h5 k) (h6 k) (h7 k) (h8 k) (h9 k) (h10 k) (h11 k) (h12 k) (h13 k) (h14 k) (h15 k) (h16 k)) := by cases t <;> rfl
def c_UnOp {R : Type} (t : UnOp) (h0 : R) (h1 : R) (h2 : R) (h3 : R) : R := (@UnOp.casesOn.{1} (fun _ => R) t h0 h1 h2 h3)
theorem D_UnOp_0 {R : Type} (h0 : R) (h1 : R) (h2 : R) (h3 : R)  : c_UnOp (@UnOp.neg) h0 h1 h2 h3 = h0  := rfl
theorem D_UnOp_1 {R : Type} (h0 : R) (h1 : R) (h2 : R) (h3 : R)  : c_UnOp (@UnOp.xor) h0 h1 h2 h3 = h1  := rfl
theorem D_UnOp_2 {R : Type} (h0 : R) (h1 : R) (h2 : R) (h3 : R)  : c_UnOp (@UnOp.not) h0 h1 h2 h3 = h2  := rfl
theorem D_UnOp_3 {R : Type} (h0 : R) (h1 : R) (h2 : R) (h3 : R)  : c_UnOp (@UnOp.plus) h0 h1 h2 h3 = h3  := rfl
theorem A_UnOp {R : Type} (h0 : R) (h1 : R) (h2 : R) (h3 : R) (t : UnOp) : (@UnOp.rec.{1} (fun _ => R) h0 h1 h2 h3 t) = (c_UnOp t h0 h1 h2 h3) := by cases t <;> rfl
theorem B_UnOp {R K : Type} (h0 : (K → R)) (h1 : (K → R)) (h2 : (K → R)) (h3 : (K → R)) (t : UnOp) (k : K) : (c_UnOp t h0 h1 h2 h3) k = (c_UnOp t (h0 k) (h1 k) (h2 k) (h3 k)) := by cases t <;> rfl
def c_ACap {R : Type} (t : ACap) (h0 : (Nat → R)) (h1 : (Nat → R)) : R := (@ACap.casesOn.{1} (fun _ => R) t h0 h1)
theorem D_ACap_0 {R : Type} (h0 : (Nat → R)) (h1 : (Nat → R)) (f0 : Nat) : c_ACap (@ACap.lit f0) h0 h1 = h0 f0 := rfl
theorem D_ACap_1 {R : Type} (h0 : (Nat → R)) (h1 : (Nat → R)) (f0 : Nat) : c_ACap (@ACap.rest f0) h0 h1 = h1 f0 := rfl
theorem A_ACap {R : Type} (h0 : (Nat → R)) (h1 : (Nat → R)) (t : ACap) : (@ACap.rec.{1} (fun _ => R) (fun a => (h0 a)) (fun a => (h1 a)) t) = (c_ACap t h0 h1) := by cases t <;> rfl
theorem B_ACap {R K : Type} (h0 : (Nat → (K → R))) (h1 : (Nat → (K → R))) (t : ACap) (k : K) : (c_ACap t h0 h1) k = (c_ACap t (fun a => (h0 a k)) (fun a => (h1 a k))) := by cases t <;> rfl
def c_Builtin {R : Type} (t : Builtin) (h0 : R) (h1 : R) (h2 : R) (h3 : R) (h4 : R) (h5 : R) (h6 : R) (h7 : R) (h8 : R) (h9 : R) (h10 : R) (h11 : R) (h12 : R) (h13 : R) (h14 : R) (h15 : R) (h16 : R) (h17 : R) (h18 : R) (h19 : R) (h20 : R) (h21 : R) (h22 : R) (h23 : R) (h24 : R) (h25 : R) : R := (@Builtin.casesOn.{1} (fun _ => R) t h0 h1 h2 h3 h4 h5 h6 h7 h8 h9 h10 h11 h12 h13 h14 h15 h16 h17 h18 h19 h20 h21 h22 h23 h24 h25)
theorem A_Builtin {R : Type} (h0 : R) (h1 : R) (h2 : R) (h3 : R) (h4 : R) (h5 : R) (h6 : R) (h7 : R) (h8 : R) (h9 : R) (h10 : R) (h11 : R) (h12 : R) (h13 : R) (h14 : R) (h15 : R) (h16 : R) (h17 : R) (h18 : R) (h19 : R) (h20 : R) (h21 : R) (h22 : R) (h23 : R) (h24 : R) (h25 : R) (t : Builtin) : (@Builtin.rec.{1} (fun _ => R) h0 h1 h2 h3 h4 h5 h6 h7 h8 h9 h10 h11 h12 h13 h14 h15 h16 h17 h18 h19 h20 h21 h22 h23 h24 h25 t) = (c_Builtin t h0 h1 h2 h3 h4 h5 h6 h7 h8 h9 h10 h11 h12 h13 h14 h15 h16 h17 h18 h19 h20 h21 h22 h23 h24 h25) := by cases t <;> rfl
theorem B_Builtin {R K : Type} (h0 : (K → R)) (h1 : (K → R)) (h2 : (K → R)) (h3 : (K → R)) (h4 : (K → R)) (h5 : (K → R)) (h6 : (K → R)) (h7 : (K → R)) (h8 : (K → R)) (h9 : (K → R)) (h10 : (K → R)) (h11 : (K → R)) (h12 : (K → R)) (h13 : (K → R)) (h14 : (K → R)) (h15 : (K → R)) (h16 : (K → R)) (h17 : (K → R)) (h18 : (K → R)) (h19 : (K → R)) (h20 : (K → R)) (h21 : (K → R)) (h22 : (K → R)) (h23 : (K → R)) (h24 : (K → R)) (h25 : (K → R)) (t : Builtin) (k : K) : (c_Builtin t h0 h1 h2 h3 h4 h5 h6 h7 h8 h9 h10 h11 h12 h13 h14 h15 h16 h17 h18 h19 h20 h21 h22 h23 h24 h25) k = (c_Builtin t (h0 k) (h1 k) (h2 k) (h3 k) (h4 k) (h5 k) (h6 k) (h7 k) (h8 k) (h9 k) (h10 k) (h11 k) (h12 k) (h13 k) (h14 k) (h15 k) (h16 k) (h17 k) (h18 k) (h19 k) (h20 k) (h21 k) (h22 k) (h23 k) (h24 k) (h25 k)) := by cases t <;> rfl
def c_Op {R : Type} (t : Op) (h0 : (Operand → R)) (h1 : (Operand → R)) (h2 : (Operand → (Operand → (Operand → R)))) (h3 : (TypeId → R)) (h4 : (TypeId → (Operand → R))) (h5 : (TypeId → ((Array (Prod Nat Operand)) → R))) (h6 : (TypeId → (Nat → ((Array (Prod Nat Operand)) → R)))) (h7 : (TypeId → (Operand → (Operand → (Operand → R))))) (h8 : (TypeId → (Operand → R))) (h9 : (TypeId → (Operand → (Operand → R)))) (h10 : (Nat → R)) (h11 : (Nat → R)) (h12 : (Operand → R)) (h13 : (BinOp → (TypeId → (Operand → (Operand → (TypeId → R)))))) (h14 : (UnOp → (TypeId → (Operand → R)))) (h15 : (TypeId → (TypeId → (Operand → R)))) (h16 : (TypeId → (Operand → R))) (h17 : (TypeId → (Operand → R))) (h18 : (Fn → ((Array Operand) → ((Array Operand) → R)))) (h19 : (TypeId → ((Option Operand) → R))) (h20 : (TypeId → (Operand → R))) (h21 : (TypeId → (Operand → (Operand → R)))) (h22 : (TypeId → (Operand → ((Option Operand) → ((Option Operand) → ((Option Operand) → R)))))) (h23 : (TypeId → (Operand → (Nat → R)))) (h24 : (TypeId → (Operand → (Nat → R)))) (h25 : (TypeId → (Operand → (Operand → R)))) (h26 : (TypeId → (Operand → (Operand → R)))) (h27 : (TypeId → (Operand → (Operand → (Bool → R))))) (h28 : (TypeId → (Operand → (Operand → (Operand → R))))) (h29 : (TypeId → (Operand → (Operand → R)))) (h30 : (TypeId → (Operand → (Operand → (Operand → R))))) (h31 : (TypeId → (Operand → R))) (h32 : (Operand → (Bool → R))) (h33 : (Operand → R)) (h34 : (Operand → (TypeId → (TypeId → (Bool → R))))) (h35 : (Operand → (Nat → R))) (h36 : (Call → R)) (h37 : (Call → R)) (h38 : (Call → R)) (h39 : (Operand → R)) (h40 : (Operand → (Operand → R))) (h41 : (TypeId → (Operand → (Bool → R)))) (h42 : ((Array SelectCase) → (Bool → R))) : R := (@Op.casesOn.{1} (fun _ => R) t h0 h1 h2 h3 h4 h5 h6 h7 h8 h9 h10 h11 h12 h13 h14 h15 h16 h17 h18 h19 h20 h21 h22 h23 h24 h25 h26 h27 h28 h29 h30 h31 h32 h33 h34 h35 h36 h37 h38 h39 h40 h41 h42)
theorem A_Op {R : Type} (h0 : (Operand → R)) (h1 : (Operand → R)) (h2 : (Operand → (Operand → (Operand → R)))) (h3 : (TypeId → R)) (h4 : (TypeId → (Operand → R))) (h5 : (TypeId → ((Array (Prod Nat Operand)) → R))) (h6 : (TypeId → (Nat → ((Array (Prod Nat Operand)) → R)))) (h7 : (TypeId → (Operand → (Operand → (Operand → R))))) (h8 : (TypeId → (Operand → R))) (h9 : (TypeId → (Operand → (Operand → R)))) (h10 : (Nat → R)) (h11 : (Nat → R)) (h12 : (Operand → R)) (h13 : (BinOp → (TypeId → (Operand → (Operand → (TypeId → R)))))) (h14 : (UnOp → (TypeId → (Operand → R)))) (h15 : (TypeId → (TypeId → (Operand → R)))) (h16 : (TypeId → (Operand → R))) (h17 : (TypeId → (Operand → R))) (h18 : (Fn → ((Array Operand) → ((Array Operand) → R)))) (h19 : (TypeId → ((Option Operand) → R))) (h20 : (TypeId → (Operand → R))) (h21 : (TypeId → (Operand → (Operand → R)))) (h22 : (TypeId → (Operand → ((Option Operand) → ((Option Operand) → ((Option Operand) → R)))))) (h23 : (TypeId → (Operand → (Nat → R)))) (h24 : (TypeId → (Operand → (Nat → R)))) (h25 : (TypeId → (Operand → (Operand → R)))) (h26 : (TypeId → (Operand → (Operand → R)))) (h27 : (TypeId → (Operand → (Operand → (Bool → R))))) (h28 : (TypeId → (Operand → (Operand → (Operand → R))))) (h29 : (TypeId → (Operand → (Operand → R)))) (h30 : (TypeId → (Operand → (Operand → (Operand → R))))) (h31 : (TypeId → (Operand → R))) (h32 : (Operand → (Bool → R))) (h33 : (Operand → R)) (h34 : (Operand → (TypeId → (TypeId → (Bool → R))))) (h35 : (Operand → (Nat → R))) (h36 : (Call → R)) (h37 : (Call → R)) (h38 : (Call → R)) (h39 : (Operand → R)) (h40 : (Operand → (Operand → R))) (h41 : (TypeId → (Operand → (Bool → R)))) (h42 : ((Array SelectCase) → (Bool → R))) (t : Op) : (@Op.rec.{1} (fun _ => R) (fun a => (h0 a)) (fun a => (h1 a)) (fun a b c => (h2 a b c)) (fun a => (h3 a)) (fun a b => (h4 a b)) (fun a b => (h5 a b)) (fun a b c => (h6 a b c)) (fun a b c d => (h7 a b c d)) (fun a b => (h8 a b)) (fun a b c => (h9 a b c)) (fun a => (h10 a)) (fun a => (h11 a)) (fun a => (h12 a)) (fun a b c d e => (h13 a b c d e)) (fun a b c => (h14 a b c)) (fun a b c => (h15 a b c)) (fun a b => (h16 a b)) (fun a b => (h17 a b)) (fun a b c => (h18 a b c)) (fun a b => (h19 a b)) (fun a b => (h20 a b)) (fun a b c => (h21 a b c)) (fun a b c d e => (h22 a b c d e)) (fun a b c => (h23 a b c)) (fun a b c => (h24 a b c)) (fun a b c => (h25 a b c)) (fun a b c => (h26 a b c)) (fun a b c d => (h27 a b c d)) (fun a b c d => (h28 a b c d)) (fun a b c => (h29 a b c)) (fun a b c d => (h30 a b c d)) (fun a b => (h31 a b)) (fun a b => (h32 a b)) (fun a => (h33 a)) (fun a b c d => (h34 a b c d)) (fun a b => (h35 a b)) (fun a => (h36 a)) (fun a => (h37 a)) (fun a => (h38 a)) (fun a => (h39 a)) (fun a b => (h40 a b)) (fun a b c => (h41 a b c)) (fun a b => (h42 a b)) t) = (c_Op t h0 h1 h2 h3 h4 h5 h6 h7 h8 h9 h10 h11 h12 h13 h14 h15 h16 h17 h18 h19 h20 h21 h22 h23 h24 h25 h26 h27 h28 h29 h30 h31 h32 h33 h34 h35 h36 h37 h38 h39 h40 h41 h42) := by cases t <;> rfl
theorem B_Op {R K : Type} (h0 : (Operand → (K → R))) (h1 : (Operand → (K → R))) (h2 : (Operand → (Operand → (Operand → (K → R))))) (h3 : (TypeId → (K → R))) (h4 : (TypeId → (Operand → (K → R)))) (h5 : (TypeId → ((Array (Prod Nat Operand)) → (K → R)))) (h6 : (TypeId → (Nat → ((Array (Prod Nat Operand)) → (K → R))))) (h7 : (TypeId → (Operand → (Operand → (Operand → (K → R)))))) (h8 : (TypeId → (Operand → (K → R)))) (h9 : (TypeId → (Operand → (Operand → (K → R))))) (h10 : (Nat → (K → R))) (h11 : (Nat → (K → R))) (h12 : (Operand → (K → R))) (h13 : (BinOp → (TypeId → (Operand → (Operand → (TypeId → (K → R))))))) (h14 : (UnOp → (TypeId → (Operand → (K → R))))) (h15 : (TypeId → (TypeId → (Operand → (K → R))))) (h16 : (TypeId → (Operand → (K → R)))) (h17 : (TypeId → (Operand → (K → R)))) (h18 : (Fn → ((Array Operand) → ((Array Operand) → (K → R))))) (h19 : (TypeId → ((Option Operand) → (K → R)))) (h20 : (TypeId → (Operand → (K → R)))) (h21 : (TypeId → (Operand → (Operand → (K → R))))) (h22 : (TypeId → (Operand → ((Option Operand) → ((Option Operand) → ((Option Operand) → (K → R))))))) (h23 : (TypeId → (Operand → (Nat → (K → R))))) (h24 : (TypeId → (Operand → (Nat → (K → R))))) (h25 : (TypeId → (Operand → (Operand → (K → R))))) (h26 : (TypeId → (Operand → (Operand → (K → R))))) (h27 : (TypeId → (Operand → (Operand → (Bool → (K → R)))))) (h28 : (TypeId → (Operand → (Operand → (Operand → (K → R)))))) (h29 : (TypeId → (Operand → (Operand → (K → R))))) (h30 : (TypeId → (Operand → (Operand → (Operand → (K → R)))))) (h31 : (TypeId → (Operand → (K → R)))) (h32 : (Operand → (Bool → (K → R)))) (h33 : (Operand → (K → R))) (h34 : (Operand → (TypeId → (TypeId → (Bool → (K → R)))))) (h35 : (Operand → (Nat → (K → R)))) (h36 : (Call → (K → R))) (h37 : (Call → (K → R))) (h38 : (Call → (K → R))) (h39 : (Operand → (K → R))) (h40 : (Operand → (Operand → (K → R)))) (h41 : (TypeId → (Operand → (Bool → (K → R))))) (h42 : ((Array SelectCase) → (Bool → (K → R)))) (t : Op) (k : K) : (c_Op t h0 h1 h2 h3 h4 h5 h6 h7 h8 h9 h10 h11 h12 h13 h14 h15 h16 h17 h18 h19 h20 h21 h22 h23 h24 h25 h26 h27 h28 h29 h30 h31 h32 h33 h34 h35 h36 h37 h38 h39 h40 h41 h42) k = (c_Op t (fun a => (h0 a k)) (fun a => (h1 a k)) (fun a b c => (h2 a b c k)) (fun a => (h3 a k)) (fun a b => (h4 a b k)) (fun a b => (h5 a b k)) (fun a b c => (h6 a b c k)) (fun a b c d => (h7 a b c d k)) (fun a b => (h8 a b k)) (fun a b c => (h9 a b c k)) (fun a => (h10 a k)) (fun a => (h11 a k)) (fun a => (h12 a k)) (fun a b c d e => (h13 a b c d e k)) (fun a b c => (h14 a b c k)) (fun a b c => (h15 a b c k)) (fun a b => (h16 a b k)) (fun a b => (h17 a b k)) (fun a b c => (h18 a b c k)) (fun a b => (h19 a b k)) (fun a b => (h20 a b k)) (fun a b c => (h21 a b c k)) (fun a b c d e => (h22 a b c d e k)) (fun a b c => (h23 a b c k)) (fun a b c => (h24 a b c k)) (fun a b c => (h25 a b c k)) (fun a b c => (h26 a b c k)) (fun a b c d => (h27 a b c d k)) (fun a b c d => (h28 a b c d k)) (fun a b c => (h29 a b c k)) (fun a b c d => (h30 a b c d k)) (fun a b => (h31 a b k)) (fun a b => (h32 a b k)) (fun a => (h33 a k)) (fun a b c d => (h34 a b c d k)) (fun a b => (h35 a b k)) (fun a => (h36 a k)) (fun a => (h37 a k)) (fun a => (h38 a k)) (fun a => (h39 a k)) (fun a b => (h40 a b k)) (fun a b c => (h41 a b c k)) (fun a b => (h42 a b k))) := by cases t <;> rfl
def c_Fn {R : Type} (t : Fn) (h0 : (FuncId → R)) (h1 : (String → R)) (h2 : (TypeId → (String → R))) (h3 : (TypeId → ((Array FieldStep) → (FuncId → (Bool → R))))) (h4 : (Nat → R)) : R := (@Fn.casesOn.{1} (fun _ => R) t h0 h1 h2 h3 h4)
theorem D_Fn_0 {R : Type} (h0 : (FuncId → R)) (h1 : (String → R)) (h2 : (TypeId → (String → R))) (h3 : (TypeId → ((Array FieldStep) → (FuncId → (Bool → R))))) (h4 : (Nat → R)) (f0 : FuncId) : c_Fn (@Fn.func f0) h0 h1 h2 h3 h4 = h0 f0 := rfl
theorem D_Fn_1 {R : Type} (h0 : (FuncId → R)) (h1 : (String → R)) (h2 : (TypeId → (String → R))) (h3 : (TypeId → ((Array FieldStep) → (FuncId → (Bool → R))))) (h4 : (Nat → R)) (f0 : String) : c_Fn (@Fn.method f0) h0 h1 h2 h3 h4 = h1 f0 := rfl
theorem D_Fn_2 {R : Type} (h0 : (FuncId → R)) (h1 : (String → R)) (h2 : (TypeId → (String → R))) (h3 : (TypeId → ((Array FieldStep) → (FuncId → (Bool → R))))) (h4 : (Nat → R)) (f0 : TypeId) (f1 : String) : c_Fn (@Fn.methodOf f0 f1) h0 h1 h2 h3 h4 = h2 f0 f1 := rfl
theorem D_Fn_3 {R : Type} (h0 : (FuncId → R)) (h1 : (String → R)) (h2 : (TypeId → (String → R))) (h3 : (TypeId → ((Array FieldStep) → (FuncId → (Bool → R))))) (h4 : (Nat → R)) (f0 : TypeId) (f1 : (Array FieldStep)) (f2 : FuncId) (f3 : Bool) : c_Fn (@Fn.via f0 f1 f2 f3) h0 h1 h2 h3 h4 = h3 f0 f1 f2 f3 := rfl
theorem D_Fn_4 {R : Type} (h0 : (FuncId → R)) (h1 : (String → R)) (h2 : (TypeId → (String → R))) (h3 : (TypeId → ((Array FieldStep) → (FuncId → (Bool → R))))) (h4 : (Nat → R)) (f0 : Nat) : c_Fn (@Fn.yield f0) h0 h1 h2 h3 h4 = h4 f0 := rfl
theorem A_Fn {R : Type} (h0 : (FuncId → R)) (h1 : (String → R)) (h2 : (TypeId → (String → R))) (h3 : (TypeId → ((Array FieldStep) → (FuncId → (Bool → R))))) (h4 : (Nat → R)) (t : Fn) : (@Fn.rec.{1} (fun _ => R) (fun a => (h0 a)) (fun a => (h1 a)) (fun a b => (h2 a b)) (fun a b c d => (h3 a b c d)) (fun a => (h4 a)) t) = (c_Fn t h0 h1 h2 h3 h4) := by cases t <;> rfl
theorem B_Fn {R K : Type} (h0 : (FuncId → (K → R))) (h1 : (String → (K → R))) (h2 : (TypeId → (String → (K → R)))) (h3 : (TypeId → ((Array FieldStep) → (FuncId → (Bool → (K → R)))))) (h4 : (Nat → (K → R))) (t : Fn) (k : K) : (c_Fn t h0 h1 h2 h3 h4) k = (c_Fn t (fun a => (h0 a k)) (fun a => (h1 a k)) (fun a b => (h2 a b k)) (fun a b c d => (h3 a b c d k)) (fun a => (h4 a k))) := by cases t <;> rfl
def c_Callee {R : Type} (t : Callee) (h0 : (Operand → R)) (h1 : (Operand → (String → R))) (h2 : (Builtin → R)) : R := (@Callee.casesOn.{1} (fun _ => R) t h0 h1 h2)
theorem D_Callee_0 {R : Type} (h0 : (Operand → R)) (h1 : (Operand → (String → R))) (h2 : (Builtin → R)) (f0 : Operand) : c_Callee (@Callee.value f0) h0 h1 h2 = h0 f0 := rfl
theorem D_Callee_1 {R : Type} (h0 : (Operand → R)) (h1 : (Operand → (String → R))) (h2 : (Builtin → R)) (f0 : Operand) (f1 : String) : c_Callee (@Callee.invoke f0 f1) h0 h1 h2 = h1 f0 f1 := rfl
theorem D_Callee_2 {R : Type} (h0 : (Operand → R)) (h1 : (Operand → (String → R))) (h2 : (Builtin → R)) (f0 : Builtin) : c_Callee (@Callee.builtin f0) h0 h1 h2 = h2 f0 := rfl
theorem A_Callee {R : Type} (h0 : (Operand → R)) (h1 : (Operand → (String → R))) (h2 : (Builtin → R)) (t : Callee) : (@Callee.rec.{1} (fun _ => R) (fun a => (h0 a)) (fun a b => (h1 a b)) (fun a => (h2 a)) t) = (c_Callee t h0 h1 h2) := by cases t <;> rfl
theorem B_Callee {R K : Type} (h0 : (Operand → (K → R))) (h1 : (Operand → (String → (K → R)))) (h2 : (Builtin → (K → R))) (t : Callee) (k : K) : (c_Callee t h0 h1 h2) k = (c_Callee t (fun a => (h0 a k)) (fun a b => (h1 a b k)) (fun a => (h2 a k))) := by cases t <;> rfl
def c_Ground {R : Type} (t : Ground) (h0 : R) (h1 : R) (h2 : R) (h3 : R) (h4 : (Departure → R)) (h5 : (Departure → R)) : R := (@Ground.casesOn.{1} (fun _ => R) t h0 h1 h2 h3 h4 h5)
theorem D_Ground_0 {R : Type} (h0 : R) (h1 : R) (h2 : R) (h3 : R) (h4 : (Departure → R)) (h5 : (Departure → R))  : c_Ground (@Ground.data) h0 h1 h2 h3 h4 h5 = h0  := rfl
theorem D_Ground_1 {R : Type} (h0 : R) (h1 : R) (h2 : R) (h3 : R) (h4 : (Departure → R)) (h5 : (Departure → R))  : c_Ground (@Ground.chain) h0 h1 h2 h3 h4 h5 = h1  := rfl
theorem D_Ground_2 {R : Type} (h0 : R) (h1 : R) (h2 : R) (h3 : R) (h4 : (Departure → R)) (h5 : (Departure → R))  : c_Ground (@Ground.guard) h0 h1 h2 h3 h4 h5 = h2  := rfl
theorem D_Ground_3 {R : Type} (h0 : R) (h1 : R) (h2 : R) (h3 : R) (h4 : (Departure → R)) (h5 : (Departure → R))  : c_Ground (@Ground.phase) h0 h1 h2 h3 h4 h5 = h3  := rfl
theorem D_Ground_4 {R : Type} (h0 : R) (h1 : R) (h2 : R) (h3 : R) (h4 : (Departure → R)) (h5 : (Departure → R)) (f0 : Departure) : c_Ground (@Ground.textOnly f0) h0 h1 h2 h3 h4 h5 = h4 f0 := rfl
theorem D_Ground_5 {R : Type} (h0 : R) (h1 : R) (h2 : R) (h3 : R) (h4 : (Departure → R)) (h5 : (Departure → R)) (f0 : Departure) : c_Ground (@Ground.gcOnly f0) h0 h1 h2 h3 h4 h5 = h5 f0 := rfl
theorem A_Ground {R : Type} (h0 : R) (h1 : R) (h2 : R) (h3 : R) (h4 : (Departure → R)) (h5 : (Departure → R)) (t : Ground) : (@Ground.rec.{1} (fun _ => R) h0 h1 h2 h3 (fun a => (h4 a)) (fun a => (h5 a)) t) = (c_Ground t h0 h1 h2 h3 h4 h5) := by cases t <;> rfl
theorem B_Ground {R K : Type} (h0 : (K → R)) (h1 : (K → R)) (h2 : (K → R)) (h3 : (K → R)) (h4 : (Departure → (K → R))) (h5 : (Departure → (K → R))) (t : Ground) (k : K) : (c_Ground t h0 h1 h2 h3 h4 h5) k = (c_Ground t (h0 k) (h1 k) (h2 k) (h3 k) (fun a => (h4 a k)) (fun a => (h5 a k))) := by cases t <;> rfl
def c_Code {R : Type} (t : Code) (h0 : R) (h1 : (Nat → ((Array Oper) → (Bool → R)))) (h2 : (Code → (Code → R))) (h3 : (Operand → (Code → (Code → R)))) (h4 : (Nat → (Code → R))) (h5 : (Code → R)) (h6 : (Operand → ((Array Tmp) → (Code → (Code → R))))) (h7 : (Nat → R)) (h8 : (Code → R)) (h9 : (Nat → R)) (h10 : (Nat → R)) (h11 : R) (h12 : (String → R)) : R := (@Code.casesOn.{1} (fun _ => R) t h0 h1 h2 h3 h4 h5 h6 h7 h8 h9 h10 h11 h12)
theorem A_Code {R : Type} (h0 : R) (h1 : (Nat → ((Array Oper) → (Bool → R)))) (h2 : (Code → (Code → R))) (h3 : (Operand → (Code → (Code → R)))) (h4 : (Nat → (Code → R))) (h5 : (Code → R)) (h6 : (Operand → ((Array Tmp) → (Code → (Code → R))))) (h7 : (Nat → R)) (h8 : (Code → R)) (h9 : (Nat → R)) (h10 : (Nat → R)) (h11 : R) (h12 : (String → R)) (t : Code) : (@Code.rec.{1} (fun _ => R) h0 (fun a b c => (h1 a b c)) (fun a b _ _ => (h2 a b)) (fun a b c _ _ => (h3 a b c)) (fun a b _ => (h4 a b)) (fun a _ => (h5 a)) (fun a b c d _ _ => (h6 a b c d)) (fun a => (h7 a)) (fun a _ => (h8 a)) (fun a => (h9 a)) (fun a => (h10 a)) h11 (fun a => (h12 a)) t) = (c_Code t h0 h1 h2 h3 h4 h5 h6 h7 h8 h9 h10 h11 h12) := by cases t <;> rfl
theorem B_Code {R K : Type} (h0 : (K → R)) (h1 : (Nat → ((Array Oper) → (Bool → (K → R))))) (h2 : (Code → (Code → (K → R)))) (h3 : (Operand → (Code → (Code → (K → R))))) (h4 : (Nat → (Code → (K → R)))) (h5 : (Code → (K → R))) (h6 : (Operand → ((Array Tmp) → (Code → (Code → (K → R)))))) (h7 : (Nat → (K → R))) (h8 : (Code → (K → R))) (h9 : (Nat → (K → R))) (h10 : (Nat → (K → R))) (h11 : (K → R)) (h12 : (String → (K → R))) (t : Code) (k : K) : (c_Code t h0 h1 h2 h3 h4 h5 h6 h7 h8 h9 h10 h11 h12) k = (c_Code t (h0 k) (fun a b c => (h1 a b c k)) (fun a b => (h2 a b k)) (fun a b c => (h3 a b c k)) (fun a b => (h4 a b k)) (fun a => (h5 a k)) (fun a b c d => (h6 a b c d k)) (fun a => (h7 a k)) (fun a => (h8 a k)) (fun a => (h9 a k)) (fun a => (h10 a k)) (h11 k) (fun a => (h12 a k))) := by cases t <;> rfl
def c_Out {R : Type} (t : Out) (h0 : R) (h1 : (Nat → R)) (h2 : R) : R := (@Out.casesOn.{1} (fun _ => R) t h0 h1 h2)
theorem D_Out_0 {R : Type} (h0 : R) (h1 : (Nat → R)) (h2 : R)  : c_Out (@Out.norm) h0 h1 h2 = h0  := rfl
theorem D_Out_1 {R : Type} (h0 : R) (h1 : (Nat → R)) (h2 : R) (f0 : Nat) : c_Out (@Out.exit f0) h0 h1 h2 = h1 f0 := rfl
theorem D_Out_2 {R : Type} (h0 : R) (h1 : (Nat → R)) (h2 : R)  : c_Out (@Out.ret) h0 h1 h2 = h2  := rfl
theorem A_Out {R : Type} (h0 : R) (h1 : (Nat → R)) (h2 : R) (t : Out) : (@Out.rec.{1} (fun _ => R) h0 (fun a => (h1 a)) h2 t) = (c_Out t h0 h1 h2) := by cases t <;> rfl
theorem B_Out {R K : Type} (h0 : (K → R)) (h1 : (Nat → (K → R))) (h2 : (K → R)) (t : Out) (k : K) : (c_Out t h0 h1 h2) k = (c_Out t (h0 k) (fun a => (h1 a k)) (h2 k)) := by cases t <;> rfl
def c_LSt {R : Type} (t : LSt) (h0 : R) (h1 : R) (h2 : (Out → R)) (h3 : R) : R := (@LSt.casesOn.{1} (fun _ => R) t h0 h1 h2 h3)
theorem D_LSt_0 {R : Type} (h0 : R) (h1 : R) (h2 : (Out → R)) (h3 : R)  : c_LSt (@LSt.ready) h0 h1 h2 h3 = h0  := rfl
theorem D_LSt_1 {R : Type} (h0 : R) (h1 : R) (h2 : (Out → R)) (h3 : R)  : c_LSt (@LSt.busy) h0 h1 h2 h3 = h1  := rfl
theorem D_LSt_2 {R : Type} (h0 : R) (h1 : R) (h2 : (Out → R)) (h3 : R) (f0 : Out) : c_LSt (@LSt.done f0) h0 h1 h2 h3 = h2 f0 := rfl
theorem D_LSt_3 {R : Type} (h0 : R) (h1 : R) (h2 : (Out → R)) (h3 : R)  : c_LSt (@LSt.over) h0 h1 h2 h3 = h3  := rfl
theorem A_LSt {R : Type} (h0 : R) (h1 : R) (h2 : (Out → R)) (h3 : R) (t : LSt) : (@LSt.rec.{1} (fun _ => R) h0 h1 (fun a => (h2 a)) h3 t) = (c_LSt t h0 h1 h2 h3) := by cases t <;> rfl
theorem B_LSt {R K : Type} (h0 : (K → R)) (h1 : (K → R)) (h2 : (Out → (K → R))) (h3 : (K → R)) (t : LSt) (k : K) : (c_LSt t h0 h1 h2 h3) k = (c_LSt t (h0 k) (h1 k) (fun a => (h2 a k)) (h3 k)) := by cases t <;> rfl
def c_ResultVar {R : Type} (t : ResultVar) (h0 : (Tmp → R)) (h1 : (Tmp → (TypeId → R))) : R := (@ResultVar.casesOn.{1} (fun _ => R) t h0 h1)
theorem D_ResultVar_0 {R : Type} (h0 : (Tmp → R)) (h1 : (Tmp → (TypeId → R))) (f0 : Tmp) : c_ResultVar (@ResultVar.tmp f0) h0 h1 = h0 f0 := rfl
theorem D_ResultVar_1 {R : Type} (h0 : (Tmp → R)) (h1 : (Tmp → (TypeId → R))) (f0 : Tmp) (f1 : TypeId) : c_ResultVar (@ResultVar.cell f0 f1) h0 h1 = h1 f0 f1 := rfl
theorem A_ResultVar {R : Type} (h0 : (Tmp → R)) (h1 : (Tmp → (TypeId → R))) (t : ResultVar) : (@ResultVar.rec.{1} (fun _ => R) (fun a => (h0 a)) (fun a b => (h1 a b)) t) = (c_ResultVar t h0 h1) := by cases t <;> rfl
theorem B_ResultVar {R K : Type} (h0 : (Tmp → (K → R))) (h1 : (Tmp → (TypeId → (K → R)))) (t : ResultVar) (k : K) : (c_ResultVar t h0 h1) k = (c_ResultVar t (fun a => (h0 a k)) (fun a b => (h1 a b k))) := by cases t <;> rfl
theorem S0 {R : Type} (t : AV) (h0 : (Bool → R)) (h1 : (Value → R)) (d : R) : (@wantedA._sparseCasesOn_2.{1} (fun _ => R) t h0 h1 (fun _ => d)) = (c_AV t h0 (fun _ _ => d) (fun _ => d) (fun _ _ => d) d (fun _ _ _ _ => d) (fun _ _ _ _ => d) d (fun _ => d) d (fun _ => d) d (fun _ _ _ => d) (fun _ => d) d (fun _ _ => d) d (fun _ => d) (fun _ => d) h1) := by cases t <;> rfl
theorem S1 {R : Type} (t : Bool) (h0 : R) (d : R) : (@selectA._sparseCasesOn_5.{1} (fun _ => R) t h0 (fun _ => d)) = (c_Bool t h0 d) := by cases t <;> rfl
theorem S2 {R : Type} (t : Bool) (h0 : R) (d : R) : (@wantedA._sparseCasesOn_1.{1} (fun _ => R) t h0 (fun _ => d)) = (c_Bool t d h0) := by cases t <;> rfl
theorem S3 {R : Type} (t : Value) (h0 : (Bool → R)) (h1 : (IntKind → (Int → R))) (h2 : (ByteArray → R)) (h3 : ((Option Addr) → R)) (h4 : ((Option Addr) → (Nat → (Nat → R)))) (h5 : ((Option Nat) → R)) (h6 : ((Option Nat) → R)) (h7 : R) (h8 : R) (d : R) : (@ofV1._sparseCasesOn_1.{1} (fun _ => R) t h0 h1 h2 h3 h4 h5 h6 h7 h8 (fun _ => d)) = (c_Value t h0 h1 (fun _ _ => d) (fun _ _ _ => d) h2 h3 h4 h5 h6 (fun _ _ _ => d) h7 (fun _ _ => d) h8 (fun _ => d) (fun _ => d)) := by cases t <;> rfl
theorem S4 {α : Type} {R : Type} (t : (Option α)) (h0 : R) (d : R) : (@ofV1._sparseCasesOn_2.{1, 0} α (fun _ => R) t h0 (fun _ => d)) = (c_Option t h0 (fun _ => d)) := by cases t <;> rfl
theorem S5 {R : Type} (t : Value) (h0 : ((Array Value) → R)) (h1 : ((Array Value) → R)) (d : R) : (@ofV._sparseCasesOn_2.{1} (fun _ => R) t h0 h1 (fun _ => d)) = (c_Value t (fun _ => d) (fun _ _ => d) (fun _ _ => d) (fun _ _ _ => d) (fun _ => d) (fun _ => d) (fun _ _ _ => d) (fun _ => d) (fun _ => d) (fun _ _ _ => d) d (fun _ _ => d) d h0 h1) := by cases t <;> rfl
theorem S6 {R : Type} (t : AV) (h0 : ((List AV) → R)) (h1 : ((List AV) → R)) (h2 : (Value → R)) (d : R) : (@one._sparseCasesOn_1.{1} (fun _ => R) t h0 h1 h2 (fun _ => d)) = (c_AV t (fun _ => d) (fun _ _ => d) (fun _ => d) (fun _ _ => d) d (fun _ _ _ _ => d) (fun _ _ _ _ => d) d (fun _ => d) d (fun _ => d) d (fun _ _ _ => d) (fun _ => d) d (fun _ _ => d) d h0 h1 h2) := by cases t <;> rfl
theorem S7 {R : Type} (t : AV) (h0 : ((List AV) → R)) (d : R) : (@cellsOf._sparseCasesOn_1.{1} (fun _ => R) t h0 (fun _ => d)) = (c_AV t (fun _ => d) (fun _ _ => d) (fun _ => d) (fun _ _ => d) d (fun _ _ _ _ => d) (fun _ _ _ _ => d) d (fun _ => d) d (fun _ => d) d (fun _ _ _ => d) (fun _ => d) d (fun _ _ => d) d h0 (fun _ => d) (fun _ => d)) := by cases t <;> rfl
theorem S8 {R : Type} (t : TypeDesc) (h0 : ((Array Field) → R)) (h1 : (Nat → (TypeId → R))) (d : R) : (@buildA._sparseCasesOn_2.{1} (fun _ => R) t h0 h1 (fun _ => d)) = (c_TypeDesc t d d (fun _ => d) (fun _ => d) (fun _ => d) d d (fun _ => d) (fun _ => d) h1 (fun _ _ => d) (fun _ _ => d) h0 (fun _ _ _ => d) (fun _ => d) (fun _ => d) (fun _ _ => d)) := by cases t <;> rfl
theorem S9 {R : Type} (t : TypeDesc) (h0 : (TypeId → R)) (d : R) : (@buildSliceA._sparseCasesOn_1.{1} (fun _ => R) t h0 (fun _ => d)) = (c_TypeDesc t d d (fun _ => d) (fun _ => d) (fun _ => d) d d (fun _ => d) h0 (fun _ _ => d) (fun _ _ => d) (fun _ _ => d) (fun _ => d) (fun _ _ _ => d) (fun _ => d) (fun _ => d) (fun _ _ => d)) := by cases t <;> rfl
theorem S10 {R : Type} (t : IntKind) (h0 : R) (d : R) : (@beqK._sparseCasesOn_1.{1} (fun _ => R) t h0 (fun _ => d)) = (c_IntKind t h0 d d d d d d d) := by cases t <;> rfl
theorem S11 {R : Type} (t : IntKind) (h0 : R) (d : R) : (@beqK._sparseCasesOn_2.{1} (fun _ => R) t h0 (fun _ => d)) = (c_IntKind t d h0 d d d d d d) := by cases t <;> rfl
theorem S12 {R : Type} (t : IntKind) (h0 : R) (d : R) : (@beqK._sparseCasesOn_3.{1} (fun _ => R) t h0 (fun _ => d)) = (c_IntKind t d d h0 d d d d d) := by cases t <;> rfl
theorem S13 {R : Type} (t : IntKind) (h0 : R) (d : R) : (@beqK._sparseCasesOn_4.{1} (fun _ => R) t h0 (fun _ => d)) = (c_IntKind t d d d h0 d d d d) := by cases t <;> rfl
theorem S14 {R : Type} (t : IntKind) (h0 : R) (d : R) : (@beqK._sparseCasesOn_5.{1} (fun _ => R) t h0 (fun _ => d)) = (c_IntKind t d d d d h0 d d d) := by cases t <;> rfl
theorem S15 {R : Type} (t : IntKind) (h0 : R) (d : R) : (@beqK._sparseCasesOn_6.{1} (fun _ => R) t h0 (fun _ => d)) = (c_IntKind t d d d d d h0 d d) := by cases t <;> rfl
theorem S16 {R : Type} (t : IntKind) (h0 : R) (d : R) : (@beqK._sparseCasesOn_7.{1} (fun _ => R) t h0 (fun _ => d)) = (c_IntKind t d d d d d d h0 d) := by cases t <;> rfl
theorem S17 {R : Type} (t : IntKind) (h0 : R) (d : R) : (@beqK._sparseCasesOn_8.{1} (fun _ => R) t h0 (fun _ => d)) = (c_IntKind t d d d d d d d h0) := by cases t <;> rfl
theorem S18 {R : Type} (t : Int) (h0 : (Nat → R)) (d : R) : (@beqI._sparseCasesOn_1.{1} (fun _ => R) t h0 (fun _ => d)) = (c_Int t h0 (fun _ => d)) := by cases t <;> rfl
theorem S19 {R : Type} (t : Int) (h0 : (Nat → R)) (d : R) : (@beqI._sparseCasesOn_2.{1} (fun _ => R) t h0 (fun _ => d)) = (c_Int t (fun _ => d) h0) := by cases t <;> rfl
theorem S20 {α : Type} {R : Type} (t : (List α)) (h0 : R) (d : R) : (@beqB._sparseCasesOn_1.{1, 0} α (fun _ => R) t h0 (fun _ => d)) = (c_List t h0 (fun _ _ => d)) := by cases t <;> rfl
theorem S21 {α : Type} {R : Type} (t : (List α)) (h0 : (α → ((List α) → R))) (d : R) : (@takeAll._sparseCasesOn_2.{1, 0} α (fun _ => R) t h0 (fun _ => d)) = (c_List t d h0) := by cases t <;> rfl
theorem S22 {R : Type} (t : AV) (h0 : (Bool → R)) (h1 : (IntKind → (Int → R))) (h2 : ((List UInt8) → R)) (d : R) : (@same1._sparseCasesOn_1.{1} (fun _ => R) t h0 h1 h2 (fun _ => d)) = (c_AV t h0 h1 h2 (fun _ _ => d) d (fun _ _ _ _ => d) (fun _ _ _ _ => d) d (fun _ => d) d (fun _ => d) d (fun _ _ _ => d) (fun _ => d) d (fun _ _ => d) d (fun _ => d) (fun _ => d) (fun _ => d)) := by cases t <;> rfl
theorem S23 {R : Type} (t : AV) (h0 : (Bool → R)) (d : R) : (@eq1._sparseCasesOn_3.{1} (fun _ => R) t h0 (fun _ => d)) = (c_AV t h0 (fun _ _ => d) (fun _ => d) (fun _ _ => d) d (fun _ _ _ _ => d) (fun _ _ _ _ => d) d (fun _ => d) d (fun _ => d) d (fun _ _ _ => d) (fun _ => d) d (fun _ _ => d) d (fun _ => d) (fun _ => d) (fun _ => d)) := by cases t <;> rfl
theorem S24 {R : Type} (t : Bool) (h0 : R) (d : R) : (@eq1._sparseCasesOn_1.{1} (fun _ => R) t h0 (fun _ => d)) = (c_Bool t h0 d) := by cases t <;> rfl
theorem S25 {R : Type} (t : Bool) (h0 : R) (d : R) : (@restOk._sparseCasesOn_1.{1} (fun _ => R) t h0 (fun _ => d)) = (c_Bool t d h0) := by cases t <;> rfl
theorem S26 {R : Type} (t : AV) (h0 : (IntKind → (Int → R))) (d : R) : (@indexAddrA._sparseCasesOn_3.{1} (fun _ => R) t h0 (fun _ => d)) = (c_AV t (fun _ => d) h0 (fun _ => d) (fun _ _ => d) d (fun _ _ _ _ => d) (fun _ _ _ _ => d) d (fun _ => d) d (fun _ => d) d (fun _ _ _ => d) (fun _ => d) d (fun _ _ => d) d (fun _ => d) (fun _ => d) (fun _ => d)) := by cases t <;> rfl
theorem S27 {R : Type} (t : AV) (h0 : ((List UInt8) → R)) (d : R) : (@indexA._sparseCasesOn_3.{1} (fun _ => R) t h0 (fun _ => d)) = (c_AV t (fun _ => d) (fun _ _ => d) h0 (fun _ _ => d) d (fun _ _ _ _ => d) (fun _ _ _ _ => d) d (fun _ => d) d (fun _ => d) d (fun _ _ _ => d) (fun _ => d) d (fun _ _ => d) d (fun _ => d) (fun _ => d) (fun _ => d)) := by cases t <;> rfl
theorem S28 {R : Type} (t : TypeDesc) (h0 : (TypeId → (TypeId → R))) (d : R) : (@lookupA._sparseCasesOn_3.{1} (fun _ => R) t h0 (fun _ => d)) = (c_TypeDesc t d d (fun _ => d) (fun _ => d) (fun _ => d) d d (fun _ => d) (fun _ => d) (fun _ _ => d) h0 (fun _ _ => d) (fun _ => d) (fun _ _ _ => d) (fun _ => d) (fun _ => d) (fun _ _ => d)) := by cases t <;> rfl
theorem S29 {R : Type} (t : AV) (h0 : (Nat → R)) (d : R) : (@mapUpdateA._sparseCasesOn_1.{1} (fun _ => R) t h0 (fun _ => d)) = (c_AV t (fun _ => d) (fun _ _ => d) (fun _ => d) (fun _ _ => d) d (fun _ _ _ _ => d) (fun _ _ _ _ => d) d h0 d (fun _ => d) d (fun _ _ _ => d) (fun _ => d) d (fun _ _ => d) d (fun _ => d) (fun _ => d) (fun _ => d)) := by cases t <;> rfl
theorem S30 {R : Type} (t : AObj) (h0 : ((List (Prod AV (Prod AV Nat))) → (Nat → R))) (d : R) : (@getMap._sparseCasesOn_1.{1} (fun _ => R) t h0 (fun _ => d)) = (c_AObj t d (fun _ _ => d) h0 (fun _ _ _ _ => d) d (fun _ _ _ _ _ _ => d)) := by cases t <;> rfl
theorem S31 {α : Type} {R : Type} (t : (Option α)) (h0 : (α → R)) (d : R) : (@takeAll._sparseCasesOn_3.{1, 0} α (fun _ => R) t h0 (fun _ => d)) = (c_Option t d h0) := by cases t <;> rfl
theorem S32 {R : Type} (t : AV) (h0 : (Nat → (Nat → R))) (d : R) : (@loadA._sparseCasesOn_3.{1} (fun _ => R) t h0 (fun _ => d)) = (c_AV t (fun _ => d) (fun _ _ => d) (fun _ => d) h0 d (fun _ _ _ _ => d) (fun _ _ _ _ => d) d (fun _ => d) d (fun _ => d) d (fun _ _ _ => d) (fun _ => d) d (fun _ _ => d) d (fun _ => d) (fun _ => d) (fun _ => d)) := by cases t <;> rfl
theorem S33 {R : Type} (t : AObj) (h0 : (Nat → ((List (Option AV)) → R))) (d : R) : (@getRow._sparseCasesOn_1.{1} (fun _ => R) t h0 (fun _ => d)) = (c_AObj t d h0 (fun _ _ => d) (fun _ _ _ _ => d) d (fun _ _ _ _ _ _ => d)) := by cases t <;> rfl
theorem S34 {R : Type} (t : BinOp) (h0 : R) (h1 : R) (h2 : R) (h3 : R) (d : R) : (@bitsA._sparseCasesOn_1.{1} (fun _ => R) t h0 h1 h2 h3 (fun _ => d)) = (c_BinOp t d d d d d h0 h1 h2 d d h3 d d d d d d) := by cases t <;> rfl
theorem S35 {R : Type} (t : AV) (h0 : ((List AV) → R)) (h1 : R) (h2 : (TypeId → (AV → R))) (h3 : (Value → R)) (d : R) : (@eqOk._sparseCasesOn_2.{1} (fun _ => R) t h0 h1 h2 h3 (fun _ => d)) = (c_AV t (fun _ => d) (fun _ _ => d) (fun _ => d) (fun _ _ => d) d (fun _ _ _ _ => d) (fun _ _ _ _ => d) d (fun _ => d) d (fun _ => d) d (fun _ _ _ => d) (fun _ => d) d h2 h1 h0 (fun _ => d) h3) := by cases t <;> rfl
theorem S36 {R : Type} (t : BinOp) (h0 : R) (h1 : R) (h2 : R) (h3 : R) (h4 : R) (h5 : R) (h6 : R) (h7 : R) (h8 : R) (h9 : R) (h10 : R) (h11 : R) (h12 : R) (d : R) : (@binA._sparseCasesOn_6.{1} (fun _ => R) t h0 h1 h2 h3 h4 h5 h6 h7 h8 h9 h10 h11 h12 (fun _ => d)) = (c_BinOp t h0 h1 h2 h3 h4 d d d h5 h6 d h11 h12 h7 h9 h8 h10) := by cases t <;> rfl
theorem S37 {R : Type} (t : BinOp) (h0 : R) (h1 : R) (d : R) : (@isShift._sparseCasesOn_1.{1} (fun _ => R) t h0 h1 (fun _ => d)) = (c_BinOp t d d d d d d d d h0 h1 d d d d d d d) := by cases t <;> rfl
theorem S38 {R : Type} (t : AV) (h0 : (IntKind → (Int → R))) (h1 : ((List UInt8) → R)) (d : R) : (@binA._sparseCasesOn_7.{1} (fun _ => R) t h0 h1 (fun _ => d)) = (c_AV t (fun _ => d) h0 h1 (fun _ _ => d) d (fun _ _ _ _ => d) (fun _ _ _ _ => d) d (fun _ => d) d (fun _ => d) d (fun _ _ _ => d) (fun _ => d) d (fun _ _ => d) d (fun _ => d) (fun _ => d) (fun _ => d)) := by cases t <;> rfl
theorem S39 {R : Type} (t : IntKind) (h0 : R) (h1 : R) (h2 : R) (h3 : R) (d : R) : (@uns._sparseCasesOn_1.{1} (fun _ => R) t h0 h1 h2 h3 (fun _ => d)) = (c_IntKind t d d d d h0 h1 h2 h3) := by cases t <;> rfl
theorem S40 {R : Type} (t : UnOp) (h0 : R) (h1 : R) (h2 : R) (d : R) : (@unA._sparseCasesOn_1.{1} (fun _ => R) t h0 h1 h2 (fun _ => d)) = (c_UnOp t h0 h2 h1 d) := by cases t <;> rfl
theorem S41 {R : Type} (t : TypeDesc) (h0 : (IntKind → R)) (h1 : R) (h2 : (TypeId → R)) (d : R) : (@convA._sparseCasesOn_4.{1} (fun _ => R) t h0 h1 h2 (fun _ => d)) = (c_TypeDesc t d d h0 (fun _ => d) (fun _ => d) h1 d (fun _ => d) h2 (fun _ _ => d) (fun _ _ => d) (fun _ _ => d) (fun _ => d) (fun _ _ _ => d) (fun _ => d) (fun _ => d) (fun _ _ => d)) := by cases t <;> rfl
theorem S42 {R : Type} (t : AV) (h0 : ((List UInt8) → R)) (h1 : (Nat → (Nat → (Nat → (ACap → R))))) (h2 : R) (d : R) : (@convA._sparseCasesOn_5.{1} (fun _ => R) t h0 h1 h2 (fun _ => d)) = (c_AV t (fun _ => d) (fun _ _ => d) h0 (fun _ _ => d) d h1 (fun _ _ _ _ => d) h2 (fun _ => d) d (fun _ => d) d (fun _ _ _ => d) (fun _ => d) d (fun _ _ => d) d (fun _ => d) (fun _ => d) (fun _ => d)) := by cases t <;> rfl
theorem S43 {R : Type} (t : TypeDesc) (h0 : (IntKind → R)) (d : R) : (@convA._sparseCasesOn_1.{1} (fun _ => R) t h0 (fun _ => d)) = (c_TypeDesc t d d h0 (fun _ => d) (fun _ => d) d d (fun _ => d) (fun _ => d) (fun _ _ => d) (fun _ _ => d) (fun _ _ => d) (fun _ => d) (fun _ _ _ => d) (fun _ => d) (fun _ => d) (fun _ _ => d)) := by cases t <;> rfl
theorem S44 {R : Type} (t : AV) (h0 : (Nat → (Nat → (Nat → (ACap → R))))) (h1 : ((List UInt8) → R)) (d : R) : (@convA._sparseCasesOn_6.{1} (fun _ => R) t h0 h1 (fun _ => d)) = (c_AV t (fun _ => d) (fun _ _ => d) h1 (fun _ _ => d) d h0 (fun _ _ _ _ => d) d (fun _ => d) d (fun _ => d) d (fun _ _ _ => d) (fun _ => d) d (fun _ _ => d) d (fun _ => d) (fun _ => d) (fun _ => d)) := by cases t <;> rfl
theorem S45 {R : Type} (t : TypeDesc) (h0 : R) (d : R) : (@convA._sparseCasesOn_3.{1} (fun _ => R) t h0 (fun _ => d)) = (c_TypeDesc t d d (fun _ => d) (fun _ => d) (fun _ => d) h0 d (fun _ => d) (fun _ => d) (fun _ _ => d) (fun _ _ => d) (fun _ _ => d) (fun _ => d) (fun _ _ _ => d) (fun _ => d) (fun _ => d) (fun _ _ => d)) := by cases t <;> rfl
theorem S46 {R : Type} (t : TypeDesc) (h0 : (Nat → (TypeId → R))) (d : R) : (@arrayAtA._sparseCasesOn_1.{1} (fun _ => R) t h0 (fun _ => d)) = (c_TypeDesc t d d (fun _ => d) (fun _ => d) (fun _ => d) d d (fun _ => d) (fun _ => d) h0 (fun _ _ => d) (fun _ _ => d) (fun _ => d) (fun _ _ _ => d) (fun _ => d) (fun _ => d) (fun _ _ => d)) := by cases t <;> rfl
theorem S47 {R : Type} (t : AV) (h0 : (Nat → (Nat → (Nat → (ACap → R))))) (d : R) : (@indexAddrA._sparseCasesOn_2.{1} (fun _ => R) t h0 (fun _ => d)) = (c_AV t (fun _ => d) (fun _ _ => d) (fun _ => d) (fun _ _ => d) d h0 (fun _ _ _ _ => d) d (fun _ => d) d (fun _ => d) d (fun _ _ _ => d) (fun _ => d) d (fun _ _ => d) d (fun _ => d) (fun _ => d) (fun _ => d)) := by cases t <;> rfl
theorem S48 {R : Type} (t : TypeDesc) (h0 : (ChanDir → (TypeId → R))) (d : R) : (@makeChanA._sparseCasesOn_1.{1} (fun _ => R) t h0 (fun _ => d)) = (c_TypeDesc t d d (fun _ => d) (fun _ => d) (fun _ => d) d d (fun _ => d) (fun _ => d) (fun _ _ => d) (fun _ _ => d) h0 (fun _ => d) (fun _ _ _ => d) (fun _ => d) (fun _ => d) (fun _ _ => d)) := by cases t <;> rfl
theorem S49 {R : Type} (t : TypeDesc) (h0 : (TypeId → R)) (h1 : (Nat → (TypeId → R))) (h2 : R) (d : R) : (@sliceA._sparseCasesOn_8.{1} (fun _ => R) t h0 h1 h2 (fun _ => d)) = (c_TypeDesc t d d (fun _ => d) (fun _ => d) (fun _ => d) h2 d (fun _ => d) h0 h1 (fun _ _ => d) (fun _ _ => d) (fun _ => d) (fun _ _ _ => d) (fun _ => d) (fun _ => d) (fun _ _ => d)) := by cases t <;> rfl
theorem S50 {R : Type} (t : AV) (h0 : R) (h1 : (Nat → (Nat → (Nat → (Nat → R))))) (h2 : (Nat → (Nat → (Nat → (ACap → R))))) (d : R) : (@sliceA._sparseCasesOn_9.{1} (fun _ => R) t h0 h1 h2 (fun _ => d)) = (c_AV t (fun _ => d) (fun _ _ => d) (fun _ => d) (fun _ _ => d) d h2 h1 h0 (fun _ => d) d (fun _ => d) d (fun _ _ _ => d) (fun _ => d) d (fun _ _ => d) d (fun _ => d) (fun _ => d) (fun _ => d)) := by cases t <;> rfl
theorem S51 {R : Type} (t : TypeDesc) (h0 : ((Array Field) → R)) (d : R) : (@fieldA._sparseCasesOn_2.{1} (fun _ => R) t h0 (fun _ => d)) = (c_TypeDesc t d d (fun _ => d) (fun _ => d) (fun _ => d) d d (fun _ => d) (fun _ => d) (fun _ _ => d) (fun _ _ => d) (fun _ _ => d) h0 (fun _ _ _ => d) (fun _ => d) (fun _ => d) (fun _ _ => d)) := by cases t <;> rfl
theorem S52 {R : Type} (t : Nat) (h0 : (Nat → R)) (d : R) : (@fieldAddrA._sparseCasesOn_1.{1} (fun _ => R) t h0 (fun _ => d)) = (c_Nat t d h0) := by cases t <;> rfl
theorem S53 {R : Type} (t : TypeDesc) (h0 : (TypeId → R)) (h1 : (Nat → (TypeId → R))) (d : R) : (@indexAddrA._sparseCasesOn_1.{1} (fun _ => R) t h0 h1 (fun _ => d)) = (c_TypeDesc t d d (fun _ => d) (fun _ => d) (fun _ => d) d d (fun _ => d) h0 h1 (fun _ _ => d) (fun _ _ => d) (fun _ => d) (fun _ _ _ => d) (fun _ => d) (fun _ => d) (fun _ _ => d)) := by cases t <;> rfl
theorem S54 {R : Type} (t : TypeDesc) (h0 : (Nat → (TypeId → R))) (h1 : R) (d : R) : (@indexA._sparseCasesOn_2.{1} (fun _ => R) t h0 h1 (fun _ => d)) = (c_TypeDesc t d d (fun _ => d) (fun _ => d) (fun _ => d) h1 d (fun _ => d) (fun _ => d) h0 (fun _ _ => d) (fun _ _ => d) (fun _ => d) (fun _ _ _ => d) (fun _ => d) (fun _ => d) (fun _ _ => d)) := by cases t <;> rfl
theorem S55 {R : Type} (t : AV) (h0 : R) (h1 : (Nat → R)) (d : R) : (@eq1._sparseCasesOn_8.{1} (fun _ => R) t h0 h1 (fun _ => d)) = (c_AV t (fun _ => d) (fun _ _ => d) (fun _ => d) (fun _ _ => d) d (fun _ _ _ _ => d) (fun _ _ _ _ => d) d h1 h0 (fun _ => d) d (fun _ _ _ => d) (fun _ => d) d (fun _ _ => d) d (fun _ => d) (fun _ => d) (fun _ => d)) := by cases t <;> rfl
theorem S56 {R : Type} (t : TypeDesc) (h0 : (TypeId → R)) (h1 : R) (d : R) : (@seqOk._sparseCasesOn_1.{1} (fun _ => R) t h0 h1 (fun _ => d)) = (c_TypeDesc t d d (fun _ => d) (fun _ => d) (fun _ => d) h1 d (fun _ => d) h0 (fun _ _ => d) (fun _ _ => d) (fun _ _ => d) (fun _ => d) (fun _ _ _ => d) (fun _ => d) (fun _ => d) (fun _ _ => d)) := by cases t <;> rfl
theorem S57 {R : Type} (t : AV) (h0 : R) (h1 : (Nat → (Nat → (Nat → (Nat → R))))) (h2 : (Nat → (Nat → (Nat → (ACap → R))))) (h3 : ((List UInt8) → R)) (d : R) : (@firstA._sparseCasesOn_1.{1} (fun _ => R) t h0 h1 h2 h3 (fun _ => d)) = (c_AV t (fun _ => d) (fun _ _ => d) h3 (fun _ _ => d) d h2 h1 h0 (fun _ => d) d (fun _ => d) d (fun _ _ _ => d) (fun _ => d) d (fun _ _ => d) d (fun _ => d) (fun _ => d) (fun _ => d)) := by cases t <;> rfl
theorem S58 {R : Type} (t : TypeDesc) (h0 : (TypeId → (TypeId → R))) (h1 : (TypeId → R)) (d : R) : (@clearA._sparseCasesOn_1.{1} (fun _ => R) t h0 h1 (fun _ => d)) = (c_TypeDesc t d d (fun _ => d) (fun _ => d) (fun _ => d) d d (fun _ => d) h1 (fun _ _ => d) h0 (fun _ _ => d) (fun _ => d) (fun _ _ _ => d) (fun _ => d) (fun _ => d) (fun _ _ => d)) := by cases t <;> rfl
theorem S59 {R : Type} (t : AV) (h0 : (Nat → (Nat → (Nat → (ACap → R))))) (h1 : R) (h2 : (Nat → (Nat → (Nat → (Nat → R))))) (d : R) : (@lenOfA._sparseCasesOn_3.{1} (fun _ => R) t h0 h1 h2 (fun _ => d)) = (c_AV t (fun _ => d) (fun _ _ => d) (fun _ => d) (fun _ _ => d) d h0 h2 h1 (fun _ => d) d (fun _ => d) d (fun _ _ _ => d) (fun _ => d) d (fun _ _ => d) d (fun _ => d) (fun _ => d) (fun _ => d)) := by cases t <;> rfl
theorem S60 {R : Type} (t : TypeDesc) (h0 : R) (h1 : (Nat → (TypeId → R))) (h2 : (TypeId → R)) (h3 : (TypeId → (TypeId → R))) (h4 : (ChanDir → (TypeId → R))) (d : R) : (@lenOfA._sparseCasesOn_2.{1} (fun _ => R) t h0 h1 h2 h3 h4 (fun _ => d)) = (c_TypeDesc t d d (fun _ => d) (fun _ => d) (fun _ => d) h0 d (fun _ => d) h2 h1 h3 h4 (fun _ => d) (fun _ _ _ => d) (fun _ => d) (fun _ => d) (fun _ _ => d)) := by cases t <;> rfl
theorem S61 {R : Type} (t : AV) (h0 : R) (h1 : (Nat → R)) (d : R) : (@lenOfA._sparseCasesOn_4.{1} (fun _ => R) t h0 h1 (fun _ => d)) = (c_AV t (fun _ => d) (fun _ _ => d) (fun _ => d) (fun _ _ => d) d (fun _ _ _ _ => d) (fun _ _ _ _ => d) d (fun _ => d) d h1 h0 (fun _ _ _ => d) (fun _ => d) d (fun _ _ => d) d (fun _ => d) (fun _ => d) (fun _ => d)) := by cases t <;> rfl
theorem S62 {R : Type} (t : AObj) (h0 : (Nat → ((List AV) → (Nat → (Nat → R))))) (d : R) : (@lenOfA._sparseCasesOn_1.{1} (fun _ => R) t h0 (fun _ => d)) = (c_AObj t d (fun _ _ => d) (fun _ _ => d) h0 d (fun _ _ _ _ _ _ => d)) := by cases t <;> rfl
theorem S63 {R : Type} (t : Builtin) (h0 : R) (h1 : R) (h2 : R) (h3 : R) (h4 : R) (h5 : R) (h6 : R) (d : R) : (@builtinA._sparseCasesOn_1.{1} (fun _ => R) t h0 h1 h2 h3 h4 h5 h6 (fun _ => d)) = (c_Builtin t h0 d h3 d d h2 h4 d h1 d h5 h6 d d d d d d d d d d d d d d) := by cases t <;> rfl
theorem S64 {α : Type} {R : Type} (t : (List α)) (h0 : (α → ((List α) → R))) (d : R) : (@builtinA._sparseCasesOn_2.{1, 0} α (fun _ => R) t h0 (fun _ => d)) = (c_List t d h0) := by cases t <;> rfl
theorem S65 {α : Type} {R : Type} (t : (List α)) (h0 : R) (d : R) : (@builtinA._sparseCasesOn_3.{1, 0} α (fun _ => R) t h0 (fun _ => d)) = (c_List t h0 (fun _ _ => d)) := by cases t <;> rfl
theorem S66 {R : Type} (t : AV) (h0 : (Nat → R)) (d : R) : (@selectA._sparseCasesOn_4.{1} (fun _ => R) t h0 (fun _ => d)) = (c_AV t (fun _ => d) (fun _ _ => d) (fun _ => d) (fun _ _ => d) d (fun _ _ _ _ => d) (fun _ _ _ _ => d) d (fun _ => d) d h0 d (fun _ _ _ => d) (fun _ => d) d (fun _ _ => d) d (fun _ => d) (fun _ => d) (fun _ => d)) := by cases t <;> rfl
theorem S67 {R : Type} (t : AObj) (h0 : (Nat → ((List AV) → (Nat → (Nat → R))))) (d : R) : (@selectA._sparseCasesOn_2.{1} (fun _ => R) t h0 (fun _ => d)) = (c_AObj t d (fun _ _ => d) (fun _ _ => d) h0 d (fun _ _ _ _ _ _ => d)) := by cases t <;> rfl
theorem S68 {R : Type} (t : Op) (h0 : (Operand → R)) (h1 : (Operand → R)) (h2 : (Operand → (Operand → (Operand → R)))) (h3 : (TypeId → R)) (h4 : (TypeId → (Operand → R))) (h5 : (TypeId → ((Array (Prod Nat Operand)) → R))) (h6 : (TypeId → (Nat → ((Array (Prod Nat Operand)) → R)))) (h7 : (TypeId → (Operand → R))) (h8 : (TypeId → (Operand → (Operand → R)))) (h9 : (Operand → R)) (h10 : (BinOp → (TypeId → (Operand → (Operand → (TypeId → R)))))) (h11 : (UnOp → (TypeId → (Operand → R)))) (h12 : (TypeId → (TypeId → (Operand → R)))) (h13 : (Fn → ((Array Operand) → ((Array Operand) → R)))) (h14 : (TypeId → ((Option Operand) → R))) (h15 : (TypeId → (Operand → R))) (h16 : (TypeId → (Operand → (Operand → R)))) (h17 : (TypeId → (Operand → ((Option Operand) → ((Option Operand) → ((Option Operand) → R)))))) (h18 : (TypeId → (Operand → (Nat → R)))) (h19 : (TypeId → (Operand → (Nat → R)))) (h20 : (TypeId → (Operand → (Operand → R)))) (h21 : (TypeId → (Operand → (Operand → R)))) (h22 : (TypeId → (Operand → (Operand → (Bool → R))))) (h23 : (TypeId → (Operand → (Operand → (Operand → R))))) (h24 : (TypeId → (Operand → (Operand → (Operand → R))))) (h25 : (Operand → (Nat → R))) (h26 : (Call → R)) (h27 : ((Array SelectCase) → (Bool → R))) (h28 : (TypeId → (Operand → R))) (d : R) : (@opA._sparseCasesOn_7.{1} (fun _ => R) t h0 h1 h2 h3 h4 h5 h6 h7 h8 h9 h10 h11 h12 h13 h14 h15 h16 h17 h18 h19 h20 h21 h22 h23 h24 h25 h26 h27 h28 (fun _ => d)) = (c_Op t h0 h1 h2 h3 h4 h5 h6 h24 h7 h8 (fun _ => d) (fun _ => d) h9 h10 h11 h12 h28 (fun _ _ => d) h13 h14 h15 h16 h17 h18 h19 h20 h21 h22 h23 (fun _ _ _ => d) (fun _ _ _ _ => d) (fun _ _ => d) (fun _ _ => d) (fun _ => d) (fun _ _ _ _ => d) h25 h26 (fun _ => d) (fun _ => d) (fun _ => d) (fun _ _ => d) (fun _ _ _ => d) h27) := by cases t <;> rfl
theorem S69 {R : Type} (t : AV) (h0 : (Bool → R)) (d : R) : (@opA._sparseCasesOn_1.{1} (fun _ => R) t h0 (fun _ => d)) = (c_AV t h0 (fun _ _ => d) (fun _ => d) (fun _ _ => d) d (fun _ _ _ _ => d) (fun _ _ _ _ => d) d (fun _ => d) d (fun _ => d) d (fun _ _ _ => d) (fun _ => d) d (fun _ _ => d) d (fun _ => d) (fun _ => d) (fun _ => d)) := by cases t <;> rfl
theorem S70 {R : Type} (t : AV) (h0 : (Nat → (Nat → R))) (h1 : (Fn → ((List AV) → ((List AV) → R)))) (h2 : (Nat → R)) (d : R) : (@opA._sparseCasesOn_3.{1} (fun _ => R) t h0 h1 h2 (fun _ => d)) = (c_AV t (fun _ => d) (fun _ _ => d) (fun _ => d) h0 d (fun _ _ _ _ => d) (fun _ _ _ _ => d) d (fun _ => d) d (fun _ => d) d h1 h2 d (fun _ _ => d) d (fun _ => d) (fun _ => d) (fun _ => d)) := by cases t <;> rfl
theorem S71 {R : Type} (t : Fn) (h0 : (FuncId → R)) (d : R) : (@opA._sparseCasesOn_2.{1} (fun _ => R) t h0 (fun _ => d)) = (c_Fn t h0 (fun _ => d) (fun _ _ => d) (fun _ _ _ _ => d) (fun _ => d)) := by cases t <;> rfl
theorem S72 {α : Type} {R : Type} (t : (Option α)) (h0 : R) (d : R) : (@opA._sparseCasesOn_8.{1, 0} α (fun _ => R) t h0 (fun _ => d)) = (c_Option t h0 (fun _ => d)) := by cases t <;> rfl
theorem S73 {R : Type} (t : AV) (h0 : ((List AV) → R)) (d : R) : (@opA._sparseCasesOn_4.{1} (fun _ => R) t h0 (fun _ => d)) = (c_AV t (fun _ => d) (fun _ _ => d) (fun _ => d) (fun _ _ => d) d (fun _ _ _ _ => d) (fun _ _ _ _ => d) d (fun _ => d) d (fun _ => d) d (fun _ _ _ => d) (fun _ => d) d (fun _ _ => d) d (fun _ => d) h0 (fun _ => d)) := by cases t <;> rfl
theorem S74 {R : Type} (t : Callee) (h0 : (Builtin → R)) (h1 : (Operand → R)) (d : R) : (@opA._sparseCasesOn_6.{1} (fun _ => R) t h0 h1 (fun _ => d)) = (c_Callee t h1 (fun _ _ => d) h0) := by cases t <;> rfl
theorem S75 {R : Type} (t : AV) (h0 : (Fn → ((List AV) → ((List AV) → R)))) (h1 : (Nat → R)) (d : R) : (@opA._sparseCasesOn_5.{1} (fun _ => R) t h0 h1 (fun _ => d)) = (c_AV t (fun _ => d) (fun _ _ => d) (fun _ => d) (fun _ _ => d) d (fun _ _ _ _ => d) (fun _ _ _ _ => d) d (fun _ => d) d (fun _ => d) d h0 h1 d (fun _ _ => d) d (fun _ => d) (fun _ => d) (fun _ => d)) := by cases t <;> rfl
theorem S76 {R : Type} (t : Ground) (h0 : (Departure → R)) (h1 : (Departure → R)) (d : R) : (@bindsA._sparseCasesOn_1.{1} (fun _ => R) t h0 h1 (fun _ => d)) = (c_Ground t d d d d h0 h1) := by cases t <;> rfl
theorem S77 {R : Type} (t : Operand) (h0 : (Tmp → R)) (d : R) : (@tmpOf._sparseCasesOn_1.{1} (fun _ => R) t h0 (fun _ => d)) = (c_Operand t h0 (fun _ => d) (fun _ => d) (fun _ => d)) := by cases t <;> rfl
theorem S78 {R : Type} (t : Code) (h0 : R) (h1 : (Nat → R)) (h2 : (Nat → ((Array Oper) → (Bool → R)))) (h3 : (Code → (Code → R))) (h4 : (Operand → (Code → (Code → R)))) (h5 : (Nat → (Code → R))) (h6 : (Code → R)) (h7 : (Nat → R)) (h8 : R) (h9 : (Operand → ((Array Tmp) → (Code → (Code → R))))) (d : R) : (@codeA._sparseCasesOn_5.{1} (fun _ => R) t h0 h1 h2 h3 h4 h5 h6 h7 h8 h9 (fun _ => d)) = (c_Code t h0 h2 h3 h4 h5 h6 h9 h7 (fun _ => d) h1 (fun _ => d) h8 (fun _ => d)) := by cases t <;> rfl
theorem S79 {R : Type} (t : AV) (h0 : (Fn → ((List AV) → ((List AV) → R)))) (d : R) : (@codeA._sparseCasesOn_4.{1} (fun _ => R) t h0 (fun _ => d)) = (c_AV t (fun _ => d) (fun _ _ => d) (fun _ => d) (fun _ _ => d) d (fun _ _ _ _ => d) (fun _ _ _ _ => d) d (fun _ => d) d (fun _ => d) d h0 (fun _ => d) d (fun _ _ => d) d (fun _ => d) (fun _ => d) (fun _ => d)) := by cases t <;> rfl
theorem S80 {R : Type} (t : AObj) (h0 : (Nat → ((T AV) → ((List Nat) → (Code → (Code → (LSt → R))))))) (d : R) : (@codeA._sparseCasesOn_3.{1} (fun _ => R) t h0 (fun _ => d)) = (c_AObj t d (fun _ _ => d) (fun _ _ => d) (fun _ _ _ _ => d) d h0) := by cases t <;> rfl
theorem S81 {R : Type} (t : LSt) (h0 : R) (h1 : (Out → R)) (d : R) : (@codeA._sparseCasesOn_2.{1} (fun _ => R) t h0 h1 (fun _ => d)) = (c_LSt t h0 d h1 d) := by cases t <;> rfl
theorem S82 {R : Type} (t : AObj) (h0 : R) (d : R) : (@takeD._sparseCasesOn_1.{1} (fun _ => R) t h0 (fun _ => d)) = (c_AObj t d (fun _ _ => d) (fun _ _ => d) (fun _ _ _ _ => d) h0 (fun _ _ _ _ _ _ => d)) := by cases t <;> rfl
theorem S83 {R : Type} (t : Out) (h0 : (Nat → R)) (d : R) : (@callA._sparseCasesOn_2.{1} (fun _ => R) t h0 (fun _ => d)) = (c_Out t d h0 d) := by cases t <;> rfl
theorem S84 {R : Type} (t : LSt) (h0 : R) (d : R) : (@callA._sparseCasesOn_7.{1} (fun _ => R) t h0 (fun _ => d)) = (c_LSt t h0 d (fun _ => d) d) := by cases t <;> rfl
theorem S85 {R : Type} (t : Out) (h0 : R) (d : R) : (@callA._sparseCasesOn_6.{1} (fun _ => R) t h0 (fun _ => d)) = (c_Out t h0 (fun _ => d) d) := by cases t <;> rfl
noncomputable def q_Listlength_nil : Nat := (@OfNat.ofNat.{0} Nat (0 : Nat) (instOfNatNat (0 : Nat)))
noncomputable def q_Listlength_cons : (AV → ((List AV) → (Nat → Nat))) := (fun _ _ c => (Nat.add c (1 : Nat)))
noncomputable def q_Listlength_r : ((List AV) → Nat) := (fun a => (@List.rec.{1, 0} AV (fun _ => Nat) (@OfNat.ofNat.{0} Nat (0 : Nat) (instOfNatNat (0 : Nat))) (fun _ _ d => (Nat.add d (1 : Nat))) a))
noncomputable def q_Listlength : ((List AV) → Nat) := (fun a => (q_Listlength_r a))
theorem q_Listlength_req : ∀ t, q_Listlength_r t = (@List.length.{0} AV) t := by
  intro t
  induction t with
  | nil  =>
    skip
    show q_Listlength_nil  = _
    skip
    refine Eq.trans ?_ (Eq.symm (List.length.eq_def ..))
    delta q_Listlength_nil instDecidableEqList.match_1
    simp only [A_List, B_List, D_List_0, D_List_1]
    try kernel_rfl
  | cons f0 f1 ih0 =>
    skip
    show q_Listlength_cons f0 f1 (q_Listlength_r f1) = _
    rw [ih0]
    refine Eq.trans ?_ (Eq.symm (List.length.eq_def ..))
    delta q_Listlength_cons instDecidableEqList.match_1
    simp only [A_List, B_List, D_List_0, D_List_1]
    try kernel_rfl
theorem q_Listlength_eq : q_Listlength = (@List.length.{0} AV) := by
  funext x0
  show q_Listlength_r x0  = _
  rw [q_Listlength_req]
noncomputable def q_nth_nil : (Nat → (Option Oper)) := (fun _ => none)
noncomputable def q_nth_cons : (Oper → ((List Oper) → ((Nat → (Option Oper)) → (Nat → (Option Oper))))) := (fun a _ c d => (@Nat.rec.{1} (fun _ => (Oper → ((Nat → (Option Oper)) → (Option Oper)))) (fun e _ => (some e)) (fun e _ _ h => (h e)) d a c))
noncomputable def q_nth_r : ((List Oper) → (Nat → (Option Oper))) := (fun a => (@List.rec.{1, 0} Oper (fun _ => (Nat → (Option Oper))) (fun _ => none) (fun b _ d e => (@Nat.rec.{1} (fun _ => (Oper → ((Nat → (Option Oper)) → (Option Oper)))) (fun f _ => (some f)) (fun f _ _ i => (i f)) e b d)) a))
noncomputable def q_nth : ((List Oper) → (Nat → (Option Oper))) := (fun a b => (q_nth_r a b))
theorem q_nth_req : ∀ t, q_nth_r t = fun x1 => (@nth Oper) t x1 := by
  intro t
  induction t with
  | nil  =>
    funext x1
    show q_nth_nil x1 = _
    skip
    refine Eq.trans ?_ (Eq.symm (nth.eq_def ..))
    delta q_nth_nil nth.match_1
    simp only [A_Nat, B_Nat, D_Nat_0, D_Nat_1, A_List, B_List, D_List_0, D_List_1]
    try kernel_rfl
  | cons f0 f1 ih0 =>
    funext x1
    show q_nth_cons f0 f1 (q_nth_r f1) x1 = _
    rw [ih0]
    refine Eq.trans ?_ (Eq.symm (nth.eq_def ..))
    delta q_nth_cons nth.match_1
    simp only [A_Nat, B_Nat, D_Nat_0, D_Nat_1, A_List, B_List, D_List_0, D_List_1]
    try kernel_rfl
theorem q_nth_eq : q_nth = (@nth Oper) := by
  funext x0 x1
  show q_nth_r x0 x1 = _
  rw [q_nth_req]
noncomputable def q_TgetP_nil : ((T AV) → (Option AV)) := (fun a => (@T.rec.{1} AV (fun _ => (Option AV)) none (fun b _ _ _ _ _ _ _ _ _ _ _ _ _ _ _ _ => b) a))
noncomputable def q_TgetP_cons : (D → ((List D) → (((T AV) → (Option AV)) → ((T AV) → (Option AV))))) := (fun a _ c d => (@T.rec.{1} AV (fun _ => (D → (((T AV) → (Option AV)) → (Option AV)))) (fun _ _ => none) (fun _ f g h i j k l m _ _ _ _ _ _ _ _ v w => (@D.rec.{1} (fun _ => (((T AV) → (Option AV)) → ((T AV) → ((T AV) → ((T AV) → ((T AV) → ((T AV) → ((T AV) → ((T AV) → ((T AV) → (Option AV))))))))))) (fun x y _ _ _ _ _ _ _ => (x y)) (fun x _ z _ _ _ _ _ _ => (x z)) (fun x _ _ w26 _ _ _ _ _ => (x w26)) (fun x _ _ _ w27 _ _ _ _ => (x w27)) (fun x _ _ _ _ w28 _ _ _ => (x w28)) (fun x _ _ _ _ _ w29 _ _ => (x w29)) (fun x _ _ _ _ _ _ w30 _ => (x w30)) (fun x _ _ _ _ _ _ _ w31 => (x w31)) v w f g h i j k l m)) d a c))
noncomputable def q_TgetP_r : ((List D) → ((T AV) → (Option AV))) := (fun a => (@List.rec.{1, 0} D (fun _ => ((T AV) → (Option AV))) (fun b => (@T.rec.{1} AV (fun _ => (Option AV)) none (fun c _ _ _ _ _ _ _ _ _ _ _ _ _ _ _ _ => c) b)) (fun b _ d e => (@T.rec.{1} AV (fun _ => (D → (((T AV) → (Option AV)) → (Option AV)))) (fun _ _ => none) (fun _ g h i j k l m n _ _ _ _ _ _ _ _ w x => (@D.rec.{1} (fun _ => (((T AV) → (Option AV)) → ((T AV) → ((T AV) → ((T AV) → ((T AV) → ((T AV) → ((T AV) → ((T AV) → ((T AV) → (Option AV))))))))))) (fun y z _ _ _ _ _ _ _ => (y z)) (fun y _ w26 _ _ _ _ _ _ => (y w26)) (fun y _ _ w27 _ _ _ _ _ => (y w27)) (fun y _ _ _ w28 _ _ _ _ => (y w28)) (fun y _ _ _ _ w29 _ _ _ => (y w29)) (fun y _ _ _ _ _ w30 _ _ => (y w30)) (fun y _ _ _ _ _ _ w31 _ => (y w31)) (fun y _ _ _ _ _ _ _ w32 => (y w32)) w x g h i j k l m n)) e b d)) a))
noncomputable def q_TgetP : ((List D) → ((T AV) → (Option AV))) := (fun a b => (q_TgetP_r a b))
theorem q_TgetP_req : ∀ t, q_TgetP_r t = fun x1 => (@T.getP AV) t x1 := by
  intro t
  induction t with
  | nil  =>
    funext x1
    show q_TgetP_nil x1 = _
    skip
    refine Eq.trans ?_ (Eq.symm (T.getP.eq_def ..))
    delta q_TgetP_nil T.getP.match_3 T.getP.match_1 T.getP.match_2
    simp only [A_T, B_T, D_T_0, D_T_1, A_D, B_D, A_List, B_List, D_List_0, D_List_1]
    try kernel_rfl
  | cons f0 f1 ih0 =>
    funext x1
    show q_TgetP_cons f0 f1 (q_TgetP_r f1) x1 = _
    rw [ih0]
    refine Eq.trans ?_ (Eq.symm (T.getP.eq_def ..))
    delta q_TgetP_cons T.getP.match_3 T.getP.match_1 T.getP.match_2
    simp only [A_T, B_T, D_T_0, D_T_1, A_D, B_D, A_List, B_List, D_List_0, D_List_1]
    try kernel_rfl
theorem q_TgetP_eq : q_TgetP = (@T.getP AV) := by
  funext x0 x1
  show q_TgetP_r x0 x1 = _
  rw [q_TgetP_req]
noncomputable def q_digit : (Nat → D) := (fun a => (@Nat.rec.{1} (fun _ => D) D.k0 (fun b _ => (@Nat.rec.{1} (fun _ => D) D.k1 (fun d _ => (@Nat.rec.{1} (fun _ => D) D.k2 (fun f _ => (@Nat.rec.{1} (fun _ => D) D.k3 (fun h _ => (@Nat.rec.{1} (fun _ => D) D.k4 (fun j _ => (@Nat.rec.{1} (fun _ => D) D.k5 (fun l _ => (@Nat.rec.{1} (fun _ => D) D.k6 (fun _ _ => D.k7) l)) j)) h)) f)) d)) b)) a))
theorem q_digit_eq : q_digit = digit := by
  funext x0
  delta q_digit digit digit.match_1
  simp only [A_Nat, B_Nat, D_Nat_0, D_Nat_1]
  try kernel_rfl
noncomputable def q_pathF_zero : (Nat → (List D)) := (fun _ => [])
noncomputable def q_pathF_succ : (Nat → ((Nat → (List D)) → (Nat → (List D)))) := (fun _ b c => (@Nat.rec.{1} (fun _ => ((Nat → (List D)) → (List D))) (fun _ => []) (fun d _ f => ((q_digit (Nat.mod d (8 : Nat))) :: (f (Nat.div d (8 : Nat))))) c b))
noncomputable def q_pathF_r : (Nat → (Nat → (List D))) := (fun a => (@Nat.rec.{1} (fun _ => (Nat → (List D))) (fun _ => []) (fun _ c d => (@Nat.rec.{1} (fun _ => ((Nat → (List D)) → (List D))) (fun _ => []) (fun e _ g => ((q_digit (Nat.mod e (8 : Nat))) :: (g (Nat.div e (8 : Nat))))) d c)) a))
noncomputable def q_pathF : (Nat → (Nat → (List D))) := (fun a b => (q_pathF_r a b))
theorem q_pathF_req : ∀ t, q_pathF_r t = fun x1 => pathF t x1 := by
  intro t
  induction t with
  | zero  =>
    funext x1
    show q_pathF_zero x1 = _
    skip
    refine Eq.trans ?_ (Eq.symm (pathF.eq_def ..))
    delta q_pathF_zero pathF.match_1 digit.match_1
    simp only [A_Nat, B_Nat, D_Nat_0, D_Nat_1, q_digit_eq]
    try kernel_rfl
  | succ f0 ih0 =>
    funext x1
    show q_pathF_succ f0 (q_pathF_r f0) x1 = _
    rw [ih0]
    refine Eq.trans ?_ (Eq.symm (pathF.eq_def ..))
    delta q_pathF_succ pathF.match_1 digit.match_1
    simp only [A_Nat, B_Nat, D_Nat_0, D_Nat_1, q_digit_eq]
    try kernel_rfl
theorem q_pathF_eq : q_pathF = pathF := by
  funext x0 x1
  show q_pathF_r x0 x1 = _
  rw [q_pathF_req]
noncomputable def q_undefA : AV := (AV.tuple [])
theorem q_undefA_eq : q_undefA = undefA := by
  funext 
  delta q_undefA undefA
  skip
  try kernel_rfl
noncomputable def q_wantedA : ((List Oper) → ((T AV) → (Oper → (Option Bool)))) := (fun a b c => (@Option.rec.{1, 0} (Prod Nat Bool) (fun _ => ((List Oper) → ((T AV) → (Option Bool)))) (fun _ _ => (some Bool.true)) (fun d e f => (@Prod.rec.{1, 0, 0} Nat Bool (fun _ => ((List Oper) → ((T AV) → (Option Bool)))) (fun g h i j => (@Option.rec.{1, 0} Oper (fun _ => ((T AV) → (Bool → (Option Bool)))) (fun _ _ => (some Bool.false)) (fun k l m => (@Option.rec.{1, 0} Tmp (fun _ => ((T AV) → (Bool → (Option Bool)))) (fun _ _ => (some Bool.false)) (fun n o p => (@AV.rec.{1} (fun _ => (Bool → (Option Bool))) (fun _ => PUnit.{1}) (fun q r => (@Bool.rec.{1} (fun _ => (Bool → (Option Bool))) (fun s => (@Bool.rec.{1} (fun _ => (Option Bool)) (some Bool.true) (some Bool.false) s)) (fun s => (@Bool.rec.{1} (fun _ => (Option Bool)) (some Bool.false) (some Bool.true) s)) q r)) (fun _ _ _ => (some Bool.false)) (fun _ _ => (some Bool.false)) (fun _ _ _ => (some Bool.false)) (fun _ => (some Bool.false)) (fun _ _ _ _ _ => (some Bool.false)) (fun _ _ _ _ _ => (some Bool.false)) (fun _ => (some Bool.false)) (fun _ _ => (some Bool.false)) (fun _ => (some Bool.false)) (fun _ _ => (some Bool.false)) (fun _ => (some Bool.false)) (fun _ _ _ _ _ _ => (some Bool.false)) (fun _ _ => (some Bool.false)) (fun _ => (some Bool.false)) (fun _ _ _ _ => (some Bool.false)) (fun _ => (some Bool.false)) (fun _ _ _ => (some Bool.false)) (fun _ _ _ => (some Bool.false)) (fun _ _ => none) PUnit.unit.{1} (fun _ _ _ _ => PUnit.unit.{1}) (@Option.rec.{1, 0} AV (fun _ => AV) q_undefA (fun q => q) (q_TgetP (q_pathF n n) o)) p)) (Oper.dst k) l m)) (q_nth i g) j h)) d e f)) (Oper.guard c) a b))
theorem q_wantedA_eq : q_wantedA = wantedA := by
  funext x0 x1 x2
  delta q_wantedA wantedA wantedA.match_4 wantedA.match_3 putA.match_1 wantedA.match_2 getA getA.match_1 T.get wantedA.match_1
  simp only [A_Option, B_Option, D_Option_0, D_Option_1, A_Prod, B_Prod, D_Prod_0, A_AV, B_AV, A_Bool, B_Bool, D_Bool_0, D_Bool_1, S0, S1, S2, q_nth_eq, q_TgetP_eq, q_pathF_eq, q_undefA_eq]
  try kernel_rfl
noncomputable def q_ofV1 : (Value → AV) := (fun a => (@Value.rec.{1} (fun _ => (AV → AV)) (fun _ => PUnit.{1}) (fun _ => PUnit.{1}) (fun b _ => (AV.bool b)) (fun b c _ => (AV.int b c)) (fun _ _ d => d) (fun _ _ _ e => e) (fun b _ => (AV.str (@Array.toList.{0} UInt8 (ByteArray.data b)))) (fun b _ => (@Option.rec.{1, 0} Addr (fun _ => (AV → AV)) (fun _ => AV.nilptr) (fun _ e => e) b (AV.raw (Value.pointer b)))) (fun b c d _ => (@Option.rec.{1, 0} Addr (fun _ => (Nat → (Nat → (AV → AV)))) (fun f g _ => (@dite.{1} ((fun (i : Value) => AV) (Value.slice none f g)) (@Eq.{1} Nat f (@OfNat.ofNat.{0} Nat (0 : Nat) (instOfNatNat (0 : Nat)))) (instDecidableEqNat f (@OfNat.ofNat.{0} Nat (0 : Nat) (instOfNatNat (0 : Nat)))) (@Eq.ndrec_symm.{1, 1} Nat (0 : Nat) (fun _ => AV) (@dite.{1} ((fun (i : Value) => AV) (Value.slice none (@OfNat.ofNat.{0} Nat (0 : Nat) (instOfNatNat (0 : Nat))) g)) (@Eq.{1} Nat g (@OfNat.ofNat.{0} Nat (0 : Nat) (instOfNatNat (0 : Nat)))) (instDecidableEqNat g (@OfNat.ofNat.{0} Nat (0 : Nat) (instOfNatNat (0 : Nat)))) (@Eq.ndrec_symm.{1, 1} Nat (0 : Nat) (fun _ => AV) AV.nilslice g) (fun _ => (AV.raw (Value.slice none (0 : Nat) g)))) f) (fun _ => (AV.raw (Value.slice none f g))))) (fun _ _ _ i => i) b c d (AV.raw (Value.slice b c d)))) (fun b _ => (@Option.rec.{1, 0} Nat (fun _ => (AV → AV)) (fun _ => AV.nilmap) (fun _ e => e) b (AV.raw (Value.map b)))) (fun b _ => (@Option.rec.{1, 0} Nat (fun _ => (AV → AV)) (fun _ => AV.nilchan) (fun _ e => e) b (AV.raw (Value.chan b)))) (fun _ _ _ _ _ g => g) (fun _ => AV.nilfunc) (fun _ _ _ e => e) (fun _ => AV.nilface) (fun _ _ d => d) (fun _ _ d => d) (fun _ _ => PUnit.unit.{1}) PUnit.unit.{1} (fun _ _ _ _ => PUnit.unit.{1}) a (AV.raw a)))
theorem q_ofV1_eq : q_ofV1 = ofV1 := by
  funext x0
  delta q_ofV1 ofV1 ofV1.match_1
  simp only [A_Value, B_Value, A_Option, B_Option, D_Option_0, D_Option_1, S3, S4]
  try kernel_rfl
noncomputable def q_ofV : (Value → AV) := (fun a => (@Value.rec.{1} (fun _ => (AV → AV)) (fun _ => PUnit.{1}) (fun _ => PUnit.{1}) (fun _ c => c) (fun _ _ d => d) (fun _ _ d => d) (fun _ _ _ e => e) (fun _ c => c) (fun _ c => c) (fun _ _ _ e => e) (fun _ c => c) (fun _ c => c) (fun _ _ _ _ _ g => g) (fun b => b) (fun _ _ _ e => e) (fun b => b) (fun b _ _ => (AV.agg (@List.map.{0, 0} Value AV q_ofV1 (@Array.toList.{0} Value b)))) (fun b _ _ => (@List.rec.{1, 0} Value (fun _ => ((Array Value) → AV)) (fun _ => (AV.tuple [])) (fun _ _ _ h => (AV.raw (Value.tuple h))) (@Array.toList.{0} Value b) b)) (fun _ _ => PUnit.unit.{1}) PUnit.unit.{1} (fun _ _ _ _ => PUnit.unit.{1}) a (q_ofV1 a)))
theorem q_ofV_eq : q_ofV = ofV := by
  funext x0
  delta q_ofV ofV ofV.match_2 ofV.match_1
  simp only [A_Value, B_Value, A_List, B_List, D_List_0, D_List_1, S5, q_ofV1_eq]
  try kernel_rfl
noncomputable def q_ev : ((T AV) → (Operand → AV)) := (fun a b => (@Operand.rec.{1} (fun _ => ((T AV) → AV)) (fun c d => (@Option.rec.{1, 0} AV (fun _ => AV) q_undefA (fun e => e) (q_TgetP (q_pathF c c) d))) (fun c _ => (q_ofV c)) (fun c _ => (AV.raw (Value.pointer (some (Addr.mk c (0 : Nat) none))))) (fun c _ => (AV.func (Fn.func c) [] [])) b a))
theorem q_ev_eq : q_ev = ev := by
  funext x0 x1
  delta q_ev ev ev.match_1 getA getA.match_1 T.get
  simp only [A_Operand, B_Operand, D_Operand_0, D_Operand_1, D_Operand_2, D_Operand_3, A_Option, B_Option, D_Option_0, D_Option_1, q_TgetP_eq, q_pathF_eq, q_undefA_eq, q_ofV_eq]
  try kernel_rfl
noncomputable def q_one : (AV → Bool) := (fun a => (@AV.rec.{1} (fun _ => Bool) (fun _ => PUnit.{1}) (fun _ => Bool.true) (fun _ _ => Bool.true) (fun _ => Bool.true) (fun _ _ => Bool.true) Bool.true (fun _ _ _ _ => Bool.true) (fun _ _ _ _ => Bool.true) Bool.true (fun _ => Bool.true) Bool.true (fun _ => Bool.true) Bool.true (fun _ _ _ _ _ => Bool.true) (fun _ => Bool.true) Bool.true (fun _ _ _ => Bool.true) Bool.true (fun _ _ => Bool.false) (fun _ _ => Bool.false) (fun b => (Value.oneCell' b)) PUnit.unit.{1} (fun _ _ _ _ => PUnit.unit.{1}) a))
theorem q_one_eq : q_one = one := by
  funext x0
  delta q_one one one.match_1
  simp only [A_AV, B_AV, S6]
  try kernel_rfl
noncomputable def q_allOne_nil : Bool := Bool.true
noncomputable def q_allOne_cons : (AV → ((List AV) → (Bool → Bool))) := (fun a _ c => (@Bool.rec.{1} (fun _ => (Bool → Bool)) (fun _ => Bool.false) (fun d => d) (q_one a) c))
noncomputable def q_allOne_r : ((List AV) → Bool) := (fun a => (@List.rec.{1, 0} AV (fun _ => Bool) Bool.true (fun b _ d => (@Bool.rec.{1} (fun _ => (Bool → Bool)) (fun _ => Bool.false) (fun e => e) (q_one b) d)) a))
noncomputable def q_allOne : ((List AV) → Bool) := (fun a => (q_allOne_r a))
theorem q_allOne_req : ∀ t, q_allOne_r t = allOne t := by
  intro t
  induction t with
  | nil  =>
    skip
    show q_allOne_nil  = _
    skip
    refine Eq.trans ?_ (Eq.symm (allOne.eq_def ..))
    delta q_allOne_nil allOne.match_2 allOne.match_1
    simp only [A_Bool, B_Bool, D_Bool_0, D_Bool_1, A_List, B_List, D_List_0, D_List_1, q_one_eq]
    try kernel_rfl
  | cons f0 f1 ih0 =>
    skip
    show q_allOne_cons f0 f1 (q_allOne_r f1) = _
    rw [ih0]
    refine Eq.trans ?_ (Eq.symm (allOne.eq_def ..))
    delta q_allOne_cons allOne.match_2 allOne.match_1
    simp only [A_Bool, B_Bool, D_Bool_0, D_Bool_1, A_List, B_List, D_List_0, D_List_1, q_one_eq]
    try kernel_rfl
theorem q_allOne_eq : q_allOne = allOne := by
  funext x0
  show q_allOne_r x0  = _
  rw [q_allOne_req]
noncomputable def q_cellsOf : (AV → (List AV)) := (fun a => (@AV.rec.{1} (fun _ => ((List AV) → (List AV))) (fun _ => PUnit.{1}) (fun _ c => c) (fun _ _ d => d) (fun _ c => c) (fun _ _ d => d) (fun b => b) (fun _ _ _ _ f => f) (fun _ _ _ _ f => f) (fun b => b) (fun _ c => c) (fun b => b) (fun _ c => c) (fun b => b) (fun _ _ _ _ _ g => g) (fun _ c => c) (fun b => b) (fun _ _ _ e => e) (fun b => b) (fun b _ _ => b) (fun _ _ d => d) (fun _ c => c) PUnit.unit.{1} (fun _ _ _ _ => PUnit.unit.{1}) a (a :: [])))
theorem q_cellsOf_eq : q_cellsOf = cellsOf := by
  funext x0
  delta q_cellsOf cellsOf cellsOf.match_1
  simp only [A_AV, B_AV, S7]
  try kernel_rfl
noncomputable def q_TgetP1_nil : ((T AObj) → (Option AObj)) := (fun a => (@T.rec.{1} AObj (fun _ => (Option AObj)) none (fun b _ _ _ _ _ _ _ _ _ _ _ _ _ _ _ _ => b) a))
noncomputable def q_TgetP1_cons : (D → ((List D) → (((T AObj) → (Option AObj)) → ((T AObj) → (Option AObj))))) := (fun a _ c d => (@T.rec.{1} AObj (fun _ => (D → (((T AObj) → (Option AObj)) → (Option AObj)))) (fun _ _ => none) (fun _ f g h i j k l m _ _ _ _ _ _ _ _ v w => (@D.rec.{1} (fun _ => (((T AObj) → (Option AObj)) → ((T AObj) → ((T AObj) → ((T AObj) → ((T AObj) → ((T AObj) → ((T AObj) → ((T AObj) → ((T AObj) → (Option AObj))))))))))) (fun x y _ _ _ _ _ _ _ => (x y)) (fun x _ z _ _ _ _ _ _ => (x z)) (fun x _ _ w26 _ _ _ _ _ => (x w26)) (fun x _ _ _ w27 _ _ _ _ => (x w27)) (fun x _ _ _ _ w28 _ _ _ => (x w28)) (fun x _ _ _ _ _ w29 _ _ => (x w29)) (fun x _ _ _ _ _ _ w30 _ => (x w30)) (fun x _ _ _ _ _ _ _ w31 => (x w31)) v w f g h i j k l m)) d a c))
noncomputable def q_TgetP1_r : ((List D) → ((T AObj) → (Option AObj))) := (fun a => (@List.rec.{1, 0} D (fun _ => ((T AObj) → (Option AObj))) (fun b => (@T.rec.{1} AObj (fun _ => (Option AObj)) none (fun c _ _ _ _ _ _ _ _ _ _ _ _ _ _ _ _ => c) b)) (fun b _ d e => (@T.rec.{1} AObj (fun _ => (D → (((T AObj) → (Option AObj)) → (Option AObj)))) (fun _ _ => none) (fun _ g h i j k l m n _ _ _ _ _ _ _ _ w x => (@D.rec.{1} (fun _ => (((T AObj) → (Option AObj)) → ((T AObj) → ((T AObj) → ((T AObj) → ((T AObj) → ((T AObj) → ((T AObj) → ((T AObj) → ((T AObj) → (Option AObj))))))))))) (fun y z _ _ _ _ _ _ _ => (y z)) (fun y _ w26 _ _ _ _ _ _ => (y w26)) (fun y _ _ w27 _ _ _ _ _ => (y w27)) (fun y _ _ _ w28 _ _ _ _ => (y w28)) (fun y _ _ _ _ w29 _ _ _ => (y w29)) (fun y _ _ _ _ _ w30 _ _ => (y w30)) (fun y _ _ _ _ _ _ w31 _ => (y w31)) (fun y _ _ _ _ _ _ _ w32 => (y w32)) w x g h i j k l m n)) e b d)) a))
noncomputable def q_TgetP1 : ((List D) → ((T AObj) → (Option AObj))) := (fun a b => (q_TgetP1_r a b))
theorem q_TgetP1_req : ∀ t, q_TgetP1_r t = fun x1 => (@T.getP AObj) t x1 := by
  intro t
  induction t with
  | nil  =>
    funext x1
    show q_TgetP1_nil x1 = _
    skip
    refine Eq.trans ?_ (Eq.symm (T.getP.eq_def ..))
    delta q_TgetP1_nil T.getP.match_3 T.getP.match_1 T.getP.match_2
    simp only [A_T, B_T, D_T_0, D_T_1, A_D, B_D, A_List, B_List, D_List_0, D_List_1]
    try kernel_rfl
  | cons f0 f1 ih0 =>
    funext x1
    show q_TgetP1_cons f0 f1 (q_TgetP1_r f1) x1 = _
    rw [ih0]
    refine Eq.trans ?_ (Eq.symm (T.getP.eq_def ..))
    delta q_TgetP1_cons T.getP.match_3 T.getP.match_1 T.getP.match_2
    simp only [A_T, B_T, D_T_0, D_T_1, A_D, B_D, A_List, B_List, D_List_0, D_List_1]
    try kernel_rfl
theorem q_TgetP1_eq : q_TgetP1 = (@T.getP AObj) := by
  funext x0 x1
  show q_TgetP1_r x0 x1 = _
  rw [q_TgetP1_req]
noncomputable def q_TsetP_nil : ((T AObj) → ((Option AObj) → (T AObj))) := (fun a b => (@T.rec.{1} AObj (fun _ => ((Option AObj) → (T AObj))) (fun c => (@T.node AObj c (@T.nil AObj) (@T.nil AObj) (@T.nil AObj) (@T.nil AObj) (@T.nil AObj) (@T.nil AObj) (@T.nil AObj) (@T.nil AObj))) (fun _ d e f g h i j k _ _ _ _ _ _ _ _ t => (@T.node AObj t d e f g h i j k)) a b))
noncomputable def q_TsetP_cons : (D → ((List D) → (((T AObj) → ((Option AObj) → (T AObj))) → ((T AObj) → ((Option AObj) → (T AObj)))))) := (fun a _ c d e => (@T.rec.{1} AObj (fun _ => ((Option AObj) → (D → (((T AObj) → ((Option AObj) → (T AObj))) → (T AObj))))) (fun f g h => (@D.rec.{1} (fun _ => ((Option AObj) → (((T AObj) → ((Option AObj) → (T AObj))) → (T AObj)))) (fun i j => ((fun (k : ((T AObj) → (T AObj))) => (@T.rec.{1} AObj (fun _ => (((T AObj) → (T AObj)) → (T AObj))) (fun l => (l (@T.nil AObj))) (fun l m n o p q r s t _ _ _ _ _ _ _ _ w28 => (w28 (@T.node AObj l m n o p q r s t))) (j (@T.nil AObj) i) k)) (fun k => (@T.node AObj none k (@T.nil AObj) (@T.nil AObj) (@T.nil AObj) (@T.nil AObj) (@T.nil AObj) (@T.nil AObj) (@T.nil AObj))))) (fun i j => ((fun (k : ((T AObj) → (T AObj))) => (@T.rec.{1} AObj (fun _ => (((T AObj) → (T AObj)) → (T AObj))) (fun l => (l (@T.nil AObj))) (fun l m n o p q r s t _ _ _ _ _ _ _ _ w28 => (w28 (@T.node AObj l m n o p q r s t))) (j (@T.nil AObj) i) k)) (fun k => (@T.node AObj none (@T.nil AObj) k (@T.nil AObj) (@T.nil AObj) (@T.nil AObj) (@T.nil AObj) (@T.nil AObj) (@T.nil AObj))))) (fun i j => ((fun (k : ((T AObj) → (T AObj))) => (@T.rec.{1} AObj (fun _ => (((T AObj) → (T AObj)) → (T AObj))) (fun l => (l (@T.nil AObj))) (fun l m n o p q r s t _ _ _ _ _ _ _ _ w28 => (w28 (@T.node AObj l m n o p q r s t))) (j (@T.nil AObj) i) k)) (fun k => (@T.node AObj none (@T.nil AObj) (@T.nil AObj) k (@T.nil AObj) (@T.nil AObj) (@T.nil AObj) (@T.nil AObj) (@T.nil AObj))))) (fun i j => ((fun (k : ((T AObj) → (T AObj))) => (@T.rec.{1} AObj (fun _ => (((T AObj) → (T AObj)) → (T AObj))) (fun l => (l (@T.nil AObj))) (fun l m n o p q r s t _ _ _ _ _ _ _ _ w28 => (w28 (@T.node AObj l m n o p q r s t))) (j (@T.nil AObj) i) k)) (fun k => (@T.node AObj none (@T.nil AObj) (@T.nil AObj) (@T.nil AObj) k (@T.nil AObj) (@T.nil AObj) (@T.nil AObj) (@T.nil AObj))))) (fun i j => ((fun (k : ((T AObj) → (T AObj))) => (@T.rec.{1} AObj (fun _ => (((T AObj) → (T AObj)) → (T AObj))) (fun l => (l (@T.nil AObj))) (fun l m n o p q r s t _ _ _ _ _ _ _ _ w28 => (w28 (@T.node AObj l m n o p q r s t))) (j (@T.nil AObj) i) k)) (fun k => (@T.node AObj none (@T.nil AObj) (@T.nil AObj) (@T.nil AObj) (@T.nil AObj) k (@T.nil AObj) (@T.nil AObj) (@T.nil AObj))))) (fun i j => ((fun (k : ((T AObj) → (T AObj))) => (@T.rec.{1} AObj (fun _ => (((T AObj) → (T AObj)) → (T AObj))) (fun l => (l (@T.nil AObj))) (fun l m n o p q r s t _ _ _ _ _ _ _ _ w28 => (w28 (@T.node AObj l m n o p q r s t))) (j (@T.nil AObj) i) k)) (fun k => (@T.node AObj none (@T.nil AObj) (@T.nil AObj) (@T.nil AObj) (@T.nil AObj) (@T.nil AObj) k (@T.nil AObj) (@T.nil AObj))))) (fun i j => ((fun (k : ((T AObj) → (T AObj))) => (@T.rec.{1} AObj (fun _ => (((T AObj) → (T AObj)) → (T AObj))) (fun l => (l (@T.nil AObj))) (fun l m n o p q r s t _ _ _ _ _ _ _ _ w28 => (w28 (@T.node AObj l m n o p q r s t))) (j (@T.nil AObj) i) k)) (fun k => (@T.node AObj none (@T.nil AObj) (@T.nil AObj) (@T.nil AObj) (@T.nil AObj) (@T.nil AObj) (@T.nil AObj) k (@T.nil AObj))))) (fun i j => ((fun (k : ((T AObj) → (T AObj))) => (@T.rec.{1} AObj (fun _ => (((T AObj) → (T AObj)) → (T AObj))) (fun l => (l (@T.nil AObj))) (fun l m n o p q r s t _ _ _ _ _ _ _ _ w28 => (w28 (@T.node AObj l m n o p q r s t))) (j (@T.nil AObj) i) k)) (fun k => (@T.node AObj none (@T.nil AObj) (@T.nil AObj) (@T.nil AObj) (@T.nil AObj) (@T.nil AObj) (@T.nil AObj) (@T.nil AObj) k)))) g f h)) (fun f g h i j k l m n _ _ _ _ _ _ _ _ w x y => (@D.rec.{1} (fun _ => ((Option AObj) → (((T AObj) → ((Option AObj) → (T AObj))) → ((Option AObj) → ((T AObj) → ((T AObj) → ((T AObj) → ((T AObj) → ((T AObj) → ((T AObj) → ((T AObj) → ((T AObj) → (T AObj))))))))))))) (fun z w26 w27 w28 w29 w30 w31 w32 w33 w34 w35 => ((fun (w36 : ((T AObj) → (T AObj))) => (@T.rec.{1} AObj (fun _ => (((T AObj) → (T AObj)) → (T AObj))) (fun w37 => (w37 (@T.nil AObj))) (fun w37 w38 w39 w40 w41 w42 w43 w44 w45 _ _ _ _ _ _ _ _ w54 => (w54 (@T.node AObj w37 w38 w39 w40 w41 w42 w43 w44 w45))) (w26 w28 z) w36)) (fun w36 => (@T.node AObj w27 w36 w29 w30 w31 w32 w33 w34 w35)))) (fun z w26 w27 w28 w29 w30 w31 w32 w33 w34 w35 => ((fun (w36 : ((T AObj) → (T AObj))) => (@T.rec.{1} AObj (fun _ => (((T AObj) → (T AObj)) → (T AObj))) (fun w37 => (w37 (@T.nil AObj))) (fun w37 w38 w39 w40 w41 w42 w43 w44 w45 _ _ _ _ _ _ _ _ w54 => (w54 (@T.node AObj w37 w38 w39 w40 w41 w42 w43 w44 w45))) (w26 w29 z) w36)) (fun w36 => (@T.node AObj w27 w28 w36 w30 w31 w32 w33 w34 w35)))) (fun z w26 w27 w28 w29 w30 w31 w32 w33 w34 w35 => ((fun (w36 : ((T AObj) → (T AObj))) => (@T.rec.{1} AObj (fun _ => (((T AObj) → (T AObj)) → (T AObj))) (fun w37 => (w37 (@T.nil AObj))) (fun w37 w38 w39 w40 w41 w42 w43 w44 w45 _ _ _ _ _ _ _ _ w54 => (w54 (@T.node AObj w37 w38 w39 w40 w41 w42 w43 w44 w45))) (w26 w30 z) w36)) (fun w36 => (@T.node AObj w27 w28 w29 w36 w31 w32 w33 w34 w35)))) (fun z w26 w27 w28 w29 w30 w31 w32 w33 w34 w35 => ((fun (w36 : ((T AObj) → (T AObj))) => (@T.rec.{1} AObj (fun _ => (((T AObj) → (T AObj)) → (T AObj))) (fun w37 => (w37 (@T.nil AObj))) (fun w37 w38 w39 w40 w41 w42 w43 w44 w45 _ _ _ _ _ _ _ _ w54 => (w54 (@T.node AObj w37 w38 w39 w40 w41 w42 w43 w44 w45))) (w26 w31 z) w36)) (fun w36 => (@T.node AObj w27 w28 w29 w30 w36 w32 w33 w34 w35)))) (fun z w26 w27 w28 w29 w30 w31 w32 w33 w34 w35 => ((fun (w36 : ((T AObj) → (T AObj))) => (@T.rec.{1} AObj (fun _ => (((T AObj) → (T AObj)) → (T AObj))) (fun w37 => (w37 (@T.nil AObj))) (fun w37 w38 w39 w40 w41 w42 w43 w44 w45 _ _ _ _ _ _ _ _ w54 => (w54 (@T.node AObj w37 w38 w39 w40 w41 w42 w43 w44 w45))) (w26 w32 z) w36)) (fun w36 => (@T.node AObj w27 w28 w29 w30 w31 w36 w33 w34 w35)))) (fun z w26 w27 w28 w29 w30 w31 w32 w33 w34 w35 => ((fun (w36 : ((T AObj) → (T AObj))) => (@T.rec.{1} AObj (fun _ => (((T AObj) → (T AObj)) → (T AObj))) (fun w37 => (w37 (@T.nil AObj))) (fun w37 w38 w39 w40 w41 w42 w43 w44 w45 _ _ _ _ _ _ _ _ w54 => (w54 (@T.node AObj w37 w38 w39 w40 w41 w42 w43 w44 w45))) (w26 w33 z) w36)) (fun w36 => (@T.node AObj w27 w28 w29 w30 w31 w32 w36 w34 w35)))) (fun z w26 w27 w28 w29 w30 w31 w32 w33 w34 w35 => ((fun (w36 : ((T AObj) → (T AObj))) => (@T.rec.{1} AObj (fun _ => (((T AObj) → (T AObj)) → (T AObj))) (fun w37 => (w37 (@T.nil AObj))) (fun w37 w38 w39 w40 w41 w42 w43 w44 w45 _ _ _ _ _ _ _ _ w54 => (w54 (@T.node AObj w37 w38 w39 w40 w41 w42 w43 w44 w45))) (w26 w34 z) w36)) (fun w36 => (@T.node AObj w27 w28 w29 w30 w31 w32 w33 w36 w35)))) (fun z w26 w27 w28 w29 w30 w31 w32 w33 w34 w35 => ((fun (w36 : ((T AObj) → (T AObj))) => (@T.rec.{1} AObj (fun _ => (((T AObj) → (T AObj)) → (T AObj))) (fun w37 => (w37 (@T.nil AObj))) (fun w37 w38 w39 w40 w41 w42 w43 w44 w45 _ _ _ _ _ _ _ _ w54 => (w54 (@T.node AObj w37 w38 w39 w40 w41 w42 w43 w44 w45))) (w26 w35 z) w36)) (fun w36 => (@T.node AObj w27 w28 w29 w30 w31 w32 w33 w34 w36)))) x w y f g h i j k l m n)) d e a c))
noncomputable def q_TsetP_r : ((List D) → ((T AObj) → ((Option AObj) → (T AObj)))) := (fun a => (@List.rec.{1, 0} D (fun _ => ((T AObj) → ((Option AObj) → (T AObj)))) (fun b c => (@T.rec.{1} AObj (fun _ => ((Option AObj) → (T AObj))) (fun d => (@T.node AObj d (@T.nil AObj) (@T.nil AObj) (@T.nil AObj) (@T.nil AObj) (@T.nil AObj) (@T.nil AObj) (@T.nil AObj) (@T.nil AObj))) (fun _ e f g h i j k l _ _ _ _ _ _ _ _ u => (@T.node AObj u e f g h i j k l)) b c)) q_TsetP_cons a))
noncomputable def q_TsetP : ((List D) → ((T AObj) → ((Option AObj) → (T AObj)))) := (fun a b c => (q_TsetP_r a b c))
theorem q_TsetP_req : ∀ t, q_TsetP_r t = fun x1 x2 => (@T.setP AObj) t x1 x2 := by
  intro t
  induction t with
  | nil  =>
    funext x1 x2
    show q_TsetP_nil x1 x2 = _
    skip
    refine Eq.trans ?_ (Eq.symm (T.setP.eq_def ..))
    delta q_TsetP_nil T.setP.match_1 T.getP.match_1 T.getP.match_2 T.strictT
    simp only [A_T, B_T, D_T_0, D_T_1, A_D, B_D, A_List, B_List, D_List_0, D_List_1]
    try kernel_rfl
  | cons f0 f1 ih0 =>
    funext x1 x2
    show q_TsetP_cons f0 f1 (q_TsetP_r f1) x1 x2 = _
    rw [ih0]
    refine Eq.trans ?_ (Eq.symm (T.setP.eq_def ..))
    delta q_TsetP_cons T.setP.match_1 T.getP.match_1 T.getP.match_2 T.strictT
    simp only [A_T, B_T, D_T_0, D_T_1, A_D, B_D, A_List, B_List, D_List_0, D_List_1]
    try kernel_rfl
theorem q_TsetP_eq : q_TsetP = (@T.setP AObj) := by
  funext x0 x1 x2
  show q_TsetP_r x0 x1 x2 = _
  rw [q_TsetP_req]
noncomputable def q_somes_nil : (List (Option AV)) := []
noncomputable def q_somes_cons : (AV → ((List AV) → ((List (Option AV)) → (List (Option AV))))) := (fun a _ c => ((some a) :: c))
noncomputable def q_somes_r : ((List AV) → (List (Option AV))) := (fun a => (@List.rec.{1, 0} AV (fun _ => (List (Option AV))) [] (fun b _ d => ((some b) :: d)) a))
noncomputable def q_somes : ((List AV) → (List (Option AV))) := (fun a => (q_somes_r a))
theorem q_somes_req : ∀ t, q_somes_r t = somes t := by
  intro t
  induction t with
  | nil  =>
    skip
    show q_somes_nil  = _
    skip
    refine Eq.trans ?_ (Eq.symm (somes.eq_def ..))
    delta q_somes_nil allOne.match_2
    simp only [A_List, B_List, D_List_0, D_List_1]
    try kernel_rfl
  | cons f0 f1 ih0 =>
    skip
    show q_somes_cons f0 f1 (q_somes_r f1) = _
    rw [ih0]
    refine Eq.trans ?_ (Eq.symm (somes.eq_def ..))
    delta q_somes_cons allOne.match_2
    simp only [A_List, B_List, D_List_0, D_List_1]
    try kernel_rfl
theorem q_somes_eq : q_somes = somes := by
  funext x0
  show q_somes_r x0  = _
  rw [q_somes_req]
noncomputable def q_newRowA : (Nat → ((List AV) → (St → (Option (Prod Nat St))))) := (fun a b c => (@St.rec.{1} (fun _ => (Nat → ((List AV) → (Option (Prod Nat St))))) (fun d e f g h i => (@Option.rec.{1, 0} AObj (fun _ => (Nat → ((List AV) → ((T AObj) → (Nat → (Ks → (Ks → (Option (Prod Nat St))))))))) (fun j k l m n o => ((fun (p : ((T AObj) → (Option (Prod Nat St)))) => (@T.rec.{1} AObj (fun _ => (((T AObj) → (Option (Prod Nat St))) → (Option (Prod Nat St)))) (fun q => (q (@T.nil AObj))) (fun q r s t u v w x y _ _ _ _ _ _ _ _ w33 => (w33 (@T.node AObj q r s t u v w x y))) (q_TsetP (q_pathF m m) l (some (AObj.row j (q_somes k)))) p)) (fun p => (@Nat.rec.{1} (fun _ => (Ks → (Ks → ((T AObj) → (Option (Prod Nat St)))))) (fun q r s => (some ((0 : Nat), (St.mk s (1 : Nat) q r)))) (fun q _ s t u => (some ((Nat.add q (1 : Nat)), (St.mk u (Nat.add q (2 : Nat)) s t)))) m n o p)))) (fun _ _ _ _ _ _ _ => none) (q_TgetP1 (q_pathF e e) d) h i d e f g)) c a b))
theorem q_newRowA_eq : q_newRowA = newRowA := by
  funext x0 x1 x2
  delta q_newRowA newRowA newO getO.match_2 getO.match_1 T.get T.strictT digit.match_1 T.getP.match_1 T.set
  simp only [A_St, B_St, D_St_0, A_Option, B_Option, D_Option_0, D_Option_1, A_T, B_T, D_T_0, D_T_1, A_Nat, B_Nat, D_Nat_0, D_Nat_1, q_TgetP1_eq, q_pathF_eq, q_TsetP_eq, q_somes_eq]
  try kernel_rfl
noncomputable def q_boxA : (AV → (St → (Option (Prod AV St)))) := (fun a b => (@Bool.rec.{1} (fun _ => (AV → (St → (Option (Prod AV St))))) (fun _ _ => none) (fun c d => (@Option.rec.{1, 0} (Prod Nat St) (fun _ => (Option (Prod AV St))) none (fun e => (@Prod.rec.{1, 0, 0} Nat St (fun _ => (Option (Prod AV St))) (fun f g => (some ((AV.ptr f (0 : Nat)), g))) e)) (q_newRowA (1 : Nat) (q_cellsOf c) d))) (q_allOne (q_cellsOf a)) a b))
theorem q_boxA_eq : q_boxA = boxA := by
  funext x0 x1
  delta q_boxA boxA allOne.match_1 fail bnd bnd.match_1 ret
  simp only [A_Bool, B_Bool, D_Bool_0, D_Bool_1, A_Option, B_Option, D_Option_0, D_Option_1, A_Prod, B_Prod, D_Prod_0, q_allOne_eq, q_cellsOf_eq, q_newRowA_eq]
  try kernel_rfl
noncomputable def q_sizeA : (Env → (Nat → (Option Nat))) := (fun a b => (@Option.rec.{1, 0} TyI (fun _ => (Option Nat)) none (fun c => (some (TyI.size c))) (Env.ty a b)))
theorem q_sizeA_eq : q_sizeA = sizeA := by
  funext x0 x1
  delta q_sizeA sizeA sizeA.match_1
  simp only [A_Option, B_Option, D_Option_0, D_Option_1]
  try kernel_rfl
noncomputable def q_lay_nil : (Nat → ((List AV) → (Option (List AV)))) := (fun a b => (@Nat.rec.{1} (fun _ => ((List AV) → (PUnit.{1} → (Option (List AV))))) (fun c d => (@List.rec.{1, 0} AV (fun _ => (PUnit.{1} → (Option (List AV)))) (fun _ => (some [])) (fun _ _ _ _ => none) c d)) (fun _ _ _ _ => none) a b PUnit.unit.{1}))
noncomputable def q_lay_cons : (AV → ((List AV) → ((Nat → ((List AV) → (Option (List AV)))) → (Nat → ((List AV) → (Option (List AV))))))) := (fun a b c d e => (@Nat.rec.{1} (fun _ => ((List AV) → (AV → ((List AV) → ((Nat → ((List AV) → (Option (List AV)))) → (Option (List AV))))))) (fun f g h i => (@List.rec.{1, 0} AV (fun _ => (AV → ((List AV) → ((Nat → ((List AV) → (Option (List AV)))) → (Option (List AV)))))) (fun j k _ => (some (j :: k))) (fun j k _ _ _ o => (@Option.rec.{1, 0} (List AV) (fun _ => (AV → (Option (List AV)))) (fun _ => none) (fun p q => (some (q :: p))) (o (0 : Nat) k) j)) f g h i)) (fun f _ h i _ k => (@Option.rec.{1, 0} (List AV) (fun _ => (AV → (Option (List AV)))) (fun _ => none) (fun l m => (some (m :: l))) (k f h) i)) d e a b c))
noncomputable def q_lay_r : ((List AV) → (Nat → ((List AV) → (Option (List AV))))) := (fun a => (@List.rec.{1, 0} AV (fun _ => (Nat → ((List AV) → (Option (List AV))))) (fun b c => (@Nat.rec.{1} (fun _ => ((List AV) → (PUnit.{1} → (Option (List AV))))) (fun d e => (@List.rec.{1, 0} AV (fun _ => (PUnit.{1} → (Option (List AV)))) (fun _ => (some [])) (fun _ _ _ _ => none) d e)) (fun _ _ _ _ => none) b c PUnit.unit.{1})) (fun b c d e f => (@Nat.rec.{1} (fun _ => ((List AV) → (AV → ((List AV) → ((Nat → ((List AV) → (Option (List AV)))) → (Option (List AV))))))) (fun g h i j => (@List.rec.{1, 0} AV (fun _ => (AV → ((List AV) → ((Nat → ((List AV) → (Option (List AV)))) → (Option (List AV)))))) (fun k l _ => (some (k :: l))) (fun k l _ _ _ p => (@Option.rec.{1, 0} (List AV) (fun _ => (AV → (Option (List AV)))) (fun _ => none) (fun q r => (some (r :: q))) (p (0 : Nat) l) k)) g h i j)) (fun g _ i j _ l => (@Option.rec.{1, 0} (List AV) (fun _ => (AV → (Option (List AV)))) (fun _ => none) (fun m n => (some (n :: m))) (l g i) j)) e f b c d)) a))
noncomputable def q_lay : ((List AV) → (Nat → ((List AV) → (Option (List AV))))) := (fun a b c => (q_lay_r a b c))
theorem q_lay_req : ∀ t, q_lay_r t = fun x1 x2 => lay t x1 x2 := by
  intro t
  induction t with
  | nil  =>
    funext x1 x2
    show q_lay_nil x1 x2 = _
    skip
    refine Eq.trans ?_ (Eq.symm (lay.eq_def ..))
    delta q_lay_nil lay.match_1 takeAll.match_1
    simp only [A_Nat, B_Nat, D_Nat_0, D_Nat_1, A_List, B_List, D_List_0, D_List_1, A_Option, B_Option, D_Option_0, D_Option_1]
    try kernel_rfl
  | cons f0 f1 ih0 =>
    funext x1 x2
    show q_lay_cons f0 f1 (q_lay_r f1) x1 x2 = _
    rw [ih0]
    refine Eq.trans ?_ (Eq.symm (lay.eq_def ..))
    delta q_lay_cons lay.match_1 takeAll.match_1
    simp only [A_Nat, B_Nat, D_Nat_0, D_Nat_1, A_List, B_List, D_List_0, D_List_1, A_Option, B_Option, D_Option_0, D_Option_1]
    try kernel_rfl
theorem q_lay_eq : q_lay = lay := by
  funext x0 x1 x2
  show q_lay_r x0 x1 x2 = _
  rw [q_lay_req]
noncomputable def q_fillA_nil : ((Nat → (Option (Prod Nat Nat))) → ((List AV) → (Option (List AV)))) := (fun _ b => (some b))
noncomputable def q_fillA_cons : ((Prod Nat AV) → ((List (Prod Nat AV)) → (((Nat → (Option (Prod Nat Nat))) → ((List AV) → (Option (List AV)))) → ((Nat → (Option (Prod Nat Nat))) → ((List AV) → (Option (List AV))))))) := (fun a _ c d e => (@Prod.rec.{1, 0, 0} Nat AV (fun _ => ((Nat → (Option (Prod Nat Nat))) → ((List AV) → (((Nat → (Option (Prod Nat Nat))) → ((List AV) → (Option (List AV)))) → (Option (List AV)))))) (fun f g h i j => (@Option.rec.{1, 0} (Prod Nat Nat) (fun _ => ((Nat → (Option (Prod Nat Nat))) → ((List AV) → (((Nat → (Option (Prod Nat Nat))) → ((List AV) → (Option (List AV)))) → (AV → (Option (List AV))))))) (fun _ _ _ _ => none) (fun k l m n o => (@Prod.rec.{1, 0, 0} Nat Nat (fun _ => ((Nat → (Option (Prod Nat Nat))) → ((List AV) → (((Nat → (Option (Prod Nat Nat))) → ((List AV) → (Option (List AV)))) → (AV → (Option (List AV))))))) (fun p q r s t u => (@Bool.rec.{1} (fun _ => ((Nat → (Option (Prod Nat Nat))) → ((List AV) → (((Nat → (Option (Prod Nat Nat))) → ((List AV) → (Option (List AV)))) → (AV → (Nat → (Option (List AV)))))))) (fun _ _ _ _ _ => none) (fun v w x y z => (@Bool.rec.{1} (fun _ => ((Nat → (Option (Prod Nat Nat))) → ((List AV) → (((Nat → (Option (Prod Nat Nat))) → ((List AV) → (Option (List AV)))) → (AV → (Nat → (Option (List AV)))))))) (fun _ _ _ _ _ => none) (fun w26 w27 w28 w29 w30 => (@Option.rec.{1, 0} (List AV) (fun _ => ((Nat → (Option (Prod Nat Nat))) → (((Nat → (Option (Prod Nat Nat))) → ((List AV) → (Option (List AV)))) → (Option (List AV))))) (fun _ _ => none) (fun w31 w32 w33 => (w33 w32 w31)) (q_lay w27 w30 (q_cellsOf w29)) w26 w28)) (q_allOne (q_cellsOf y)) v w x y z)) (Nat.beq (q_Listlength (q_cellsOf u)) q) r s t u p)) k l m n o)) (h f) h i j g)) a d e c))
noncomputable def q_fillA_r : ((List (Prod Nat AV)) → ((Nat → (Option (Prod Nat Nat))) → ((List AV) → (Option (List AV))))) := (fun a => (@List.rec.{1, 0} (Prod Nat AV) (fun _ => ((Nat → (Option (Prod Nat Nat))) → ((List AV) → (Option (List AV))))) (fun _ c => (some c)) (fun b _ d e f => (@Prod.rec.{1, 0, 0} Nat AV (fun _ => ((Nat → (Option (Prod Nat Nat))) → ((List AV) → (((Nat → (Option (Prod Nat Nat))) → ((List AV) → (Option (List AV)))) → (Option (List AV)))))) (fun g h i j k => (@Option.rec.{1, 0} (Prod Nat Nat) (fun _ => ((Nat → (Option (Prod Nat Nat))) → ((List AV) → (((Nat → (Option (Prod Nat Nat))) → ((List AV) → (Option (List AV)))) → (AV → (Option (List AV))))))) (fun _ _ _ _ => none) (fun l m n o p => (@Prod.rec.{1, 0, 0} Nat Nat (fun _ => ((Nat → (Option (Prod Nat Nat))) → ((List AV) → (((Nat → (Option (Prod Nat Nat))) → ((List AV) → (Option (List AV)))) → (AV → (Option (List AV))))))) (fun q r s t u v => (@Bool.rec.{1} (fun _ => ((Nat → (Option (Prod Nat Nat))) → ((List AV) → (((Nat → (Option (Prod Nat Nat))) → ((List AV) → (Option (List AV)))) → (AV → (Nat → (Option (List AV)))))))) (fun _ _ _ _ _ => none) (fun w x y z w26 => (@Bool.rec.{1} (fun _ => ((Nat → (Option (Prod Nat Nat))) → ((List AV) → (((Nat → (Option (Prod Nat Nat))) → ((List AV) → (Option (List AV)))) → (AV → (Nat → (Option (List AV)))))))) (fun _ _ _ _ _ => none) (fun w27 w28 w29 w30 w31 => (@Option.rec.{1, 0} (List AV) (fun _ => ((Nat → (Option (Prod Nat Nat))) → (((Nat → (Option (Prod Nat Nat))) → ((List AV) → (Option (List AV)))) → (Option (List AV))))) (fun _ _ => none) (fun w32 w33 w34 => (w34 w33 w32)) (q_lay w28 w31 (q_cellsOf w30)) w27 w29)) (q_allOne (q_cellsOf z)) w x y z w26)) (Nat.beq (q_Listlength (q_cellsOf v)) r) s t u v q)) l m n o p)) (i g) i j k h)) b e f d)) a))
noncomputable def q_fillA : ((Nat → (Option (Prod Nat Nat))) → ((List AV) → ((List (Prod Nat AV)) → (Option (List AV))))) := (fun a b c => (q_fillA_r c a b))
theorem q_fillA_req : ∀ t, q_fillA_r t = fun x0 x1 => fillA x0 x1 t := by
  intro t
  induction t with
  | nil  =>
    funext x0 x1
    show q_fillA_nil x0 x1 = _
    skip
    refine Eq.trans ?_ (Eq.symm (fillA.eq_def ..))
    delta q_fillA_nil fillA.match_3 fillA.match_2 fillA.match_1 takeAll.match_1
    simp only [A_Prod, B_Prod, D_Prod_0, A_Option, B_Option, D_Option_0, D_Option_1, A_Bool, B_Bool, D_Bool_0, D_Bool_1, A_List, B_List, D_List_0, D_List_1, q_Listlength_eq, q_cellsOf_eq, q_allOne_eq, q_lay_eq]
    try kernel_rfl
  | cons f0 f1 ih0 =>
    funext x0 x1
    show q_fillA_cons f0 f1 (q_fillA_r f1) x0 x1 = _
    rw [ih0]
    refine Eq.trans ?_ (Eq.symm (fillA.eq_def ..))
    delta q_fillA_cons fillA.match_3 fillA.match_2 fillA.match_1 takeAll.match_1
    simp only [A_Prod, B_Prod, D_Prod_0, A_Option, B_Option, D_Option_0, D_Option_1, A_Bool, B_Bool, D_Bool_0, D_Bool_1, A_List, B_List, D_List_0, D_List_1, q_Listlength_eq, q_cellsOf_eq, q_allOne_eq, q_lay_eq]
    try kernel_rfl
theorem q_fillA_eq : q_fillA = fillA := by
  funext x0 x1 x2
  show q_fillA_r x2 x0 x1 = _
  rw [q_fillA_req]
noncomputable def q_fieldsKnown_nil : (Env → Bool) := (fun _ => Bool.true)
noncomputable def q_fieldsKnown_cons : (Field → ((List Field) → ((Env → Bool) → (Env → Bool)))) := (fun a _ c d => (@Option.rec.{1, 0} Nat (fun _ => (Env → ((Env → Bool) → Bool))) (fun _ _ => Bool.false) (fun _ f g => (g f)) (q_sizeA d (Field.type a)) d c))
noncomputable def q_fieldsKnown_r : ((List Field) → (Env → Bool)) := (fun a => (@List.rec.{1, 0} Field (fun _ => (Env → Bool)) (fun _ => Bool.true) (fun b _ d e => (@Option.rec.{1, 0} Nat (fun _ => (Env → ((Env → Bool) → Bool))) (fun _ _ => Bool.false) (fun _ g h => (h g)) (q_sizeA e (Field.type b)) e d)) a))
noncomputable def q_fieldsKnown : (Env → ((List Field) → Bool)) := (fun a b => (q_fieldsKnown_r b a))
theorem q_fieldsKnown_req : ∀ t, q_fieldsKnown_r t = fun x0 => fieldsKnown x0 t := by
  intro t
  induction t with
  | nil  =>
    funext x0
    show q_fieldsKnown_nil x0 = _
    skip
    refine Eq.trans ?_ (Eq.symm (fieldsKnown.eq_def ..))
    delta q_fieldsKnown_nil fieldsKnown.match_1 fieldsPlace.match_1
    simp only [A_Option, B_Option, D_Option_0, D_Option_1, A_List, B_List, D_List_0, D_List_1, q_sizeA_eq]
    try kernel_rfl
  | cons f0 f1 ih0 =>
    funext x0
    show q_fieldsKnown_cons f0 f1 (q_fieldsKnown_r f1) x0 = _
    rw [ih0]
    refine Eq.trans ?_ (Eq.symm (fieldsKnown.eq_def ..))
    delta q_fieldsKnown_cons fieldsKnown.match_1 fieldsPlace.match_1
    simp only [A_Option, B_Option, D_Option_0, D_Option_1, A_List, B_List, D_List_0, D_List_1, q_sizeA_eq]
    try kernel_rfl
theorem q_fieldsKnown_eq : q_fieldsKnown = fieldsKnown := by
  funext x0 x1
  show q_fieldsKnown_r x1 x0 = _
  rw [q_fieldsKnown_req]
noncomputable def q_nth1_nil : (Nat → (Option Field)) := (fun _ => none)
noncomputable def q_nth1_cons : (Field → ((List Field) → ((Nat → (Option Field)) → (Nat → (Option Field))))) := (fun a _ c d => (@Nat.rec.{1} (fun _ => (Field → ((Nat → (Option Field)) → (Option Field)))) (fun e _ => (some e)) (fun e _ _ h => (h e)) d a c))
noncomputable def q_nth1_r : ((List Field) → (Nat → (Option Field))) := (fun a => (@List.rec.{1, 0} Field (fun _ => (Nat → (Option Field))) (fun _ => none) (fun b _ d e => (@Nat.rec.{1} (fun _ => (Field → ((Nat → (Option Field)) → (Option Field)))) (fun f _ => (some f)) (fun f _ _ i => (i f)) e b d)) a))
noncomputable def q_nth1 : ((List Field) → (Nat → (Option Field))) := (fun a b => (q_nth1_r a b))
theorem q_nth1_req : ∀ t, q_nth1_r t = fun x1 => (@nth Field) t x1 := by
  intro t
  induction t with
  | nil  =>
    funext x1
    show q_nth1_nil x1 = _
    skip
    refine Eq.trans ?_ (Eq.symm (nth.eq_def ..))
    delta q_nth1_nil nth.match_1
    simp only [A_Nat, B_Nat, D_Nat_0, D_Nat_1, A_List, B_List, D_List_0, D_List_1]
    try kernel_rfl
  | cons f0 f1 ih0 =>
    funext x1
    show q_nth1_cons f0 f1 (q_nth1_r f1) x1 = _
    rw [ih0]
    refine Eq.trans ?_ (Eq.symm (nth.eq_def ..))
    delta q_nth1_cons nth.match_1
    simp only [A_Nat, B_Nat, D_Nat_0, D_Nat_1, A_List, B_List, D_List_0, D_List_1]
    try kernel_rfl
theorem q_nth1_eq : q_nth1 = (@nth Field) := by
  funext x0 x1
  show q_nth1_r x0 x1 = _
  rw [q_nth1_req]
noncomputable def q_fieldsPlace : (Env → ((List Field) → (Nat → (Option (Prod Nat Nat))))) := (fun a b c => (@Option.rec.{1, 0} Field (fun _ => (Env → (Option (Prod Nat Nat)))) (fun _ => none) (fun d e => (@Option.rec.{1, 0} Nat (fun _ => (Field → (Option (Prod Nat Nat)))) (fun _ => none) (fun f g => (some ((Field.offset g), f))) (q_sizeA e (Field.type d)) d)) (q_nth1 b c) a))
theorem q_fieldsPlace_eq : q_fieldsPlace = fieldsPlace := by
  funext x0 x1 x2
  delta q_fieldsPlace fieldsPlace fieldsPlace.match_2 fieldsPlace.match_1
  simp only [A_Option, B_Option, D_Option_0, D_Option_1, q_nth1_eq, q_sizeA_eq]
  try kernel_rfl
noncomputable def q_buildA : (Env → (Nat → ((List (Prod Nat AV)) → (St → (Option (Prod AV St)))))) := (fun a b c d => (@Option.rec.{1, 0} (Prod TyI St) (fun _ => (Env → ((List (Prod Nat AV)) → (Option (Prod AV St))))) (fun _ _ => none) (fun e f g => (@Prod.rec.{1, 0, 0} TyI St (fun _ => (Env → ((List (Prod Nat AV)) → (Option (Prod AV St))))) (fun h i j k => (@TypeDesc.rec.{1} (fun _ => (Env → ((List (Prod Nat AV)) → (TyI → (St → (Option (Prod AV St))))))) (fun _ _ _ _ => none) (fun _ _ _ _ => none) (fun _ _ _ _ _ => none) (fun _ _ _ _ _ => none) (fun _ _ _ _ _ => none) (fun _ _ _ _ => none) (fun _ _ _ _ => none) (fun _ _ _ _ _ => none) (fun _ _ _ _ _ => none) (fun _ m n o p q => (@Option.rec.{1, 0} Nat (fun _ => ((List (Prod Nat AV)) → (TyI → (St → (Option (Prod AV St)))))) (fun _ _ _ => none) (fun r s t u => (@Option.rec.{1, 0} (List AV) (fun _ => (St → (Option (Prod AV St)))) (fun _ => none) (fun v w => (some ((AV.agg v), w))) (q_fillA (fun v => (some ((Nat.mul v r), r))) (q_cellsOf (TyI.zero t)) s) u)) (q_sizeA n m) o p q)) (fun _ _ _ _ _ _ => none) (fun _ _ _ _ _ _ => none) (fun l m n o p => (@Bool.rec.{1} (fun _ => (Env → ((List (Prod Nat AV)) → (TyI → ((Array Field) → (St → (Option (Prod AV St)))))))) (fun _ _ _ _ _ => none) (fun q r s t u => (@Option.rec.{1, 0} (List AV) (fun _ => (St → (Option (Prod AV St)))) (fun _ => none) (fun v w => (some ((AV.agg v), w))) (q_fillA (q_fieldsPlace q (@Array.toList.{0} Field t)) (q_cellsOf (TyI.zero s)) r) u)) (q_fieldsKnown m (@Array.toList.{0} Field l)) m n o l p)) (fun _ _ _ _ _ _ _ => none) (fun _ _ _ _ _ => none) (fun _ _ _ _ _ => none) (fun _ _ _ _ _ _ => none) (TyI.desc h) j k h i)) e f g)) (@Option.rec.{1, 0} TyI (fun _ => (St → (Option (Prod TyI St)))) (fun _ => none) (fun e f => (some (e, f))) (Env.ty a b) d) a c))
theorem q_buildA_eq : q_buildA = buildA := by
  funext x0 x1 x2 x3
  delta q_buildA buildA bnd bnd.match_1 tyOf ofOpt ofOpt.match_1 fail ret buildA.match_2 buildA.match_1 loadA.match_1 allOne.match_1
  simp only [A_Option, B_Option, D_Option_0, D_Option_1, A_Prod, B_Prod, D_Prod_0, A_TypeDesc, B_TypeDesc, A_Bool, B_Bool, D_Bool_0, D_Bool_1, S8, q_sizeA_eq, q_fillA_eq, q_cellsOf_eq, q_fieldsKnown_eq, q_fieldsPlace_eq]
  try kernel_rfl
noncomputable def q_partsA_nil : ((T AV) → (List (Prod Nat AV))) := (fun _ => [])
noncomputable def q_partsA_cons : ((Prod Nat Operand) → ((List (Prod Nat Operand)) → (((T AV) → (List (Prod Nat AV))) → ((T AV) → (List (Prod Nat AV)))))) := (fun a _ c d => (@Prod.rec.{1, 0, 0} Nat Operand (fun _ => ((T AV) → (((T AV) → (List (Prod Nat AV))) → (List (Prod Nat AV))))) (fun e f g h => ((e, (q_ev g f)) :: (h g))) a d c))
noncomputable def q_partsA_r : ((List (Prod Nat Operand)) → ((T AV) → (List (Prod Nat AV)))) := (fun a => (@List.rec.{1, 0} (Prod Nat Operand) (fun _ => ((T AV) → (List (Prod Nat AV)))) (fun _ => []) (fun b _ d e => (@Prod.rec.{1, 0, 0} Nat Operand (fun _ => ((T AV) → (((T AV) → (List (Prod Nat AV))) → (List (Prod Nat AV))))) (fun f g h i => ((f, (q_ev h g)) :: (i h))) b e d)) a))
noncomputable def q_partsA : ((T AV) → ((List (Prod Nat Operand)) → (List (Prod Nat AV)))) := (fun a b => (q_partsA_r b a))
theorem q_partsA_req : ∀ t, q_partsA_r t = fun x0 => partsA x0 t := by
  intro t
  induction t with
  | nil  =>
    funext x0
    show q_partsA_nil x0 = _
    skip
    refine Eq.trans ?_ (Eq.symm (partsA.eq_def ..))
    delta q_partsA_nil partsA.match_1
    simp only [A_Prod, B_Prod, D_Prod_0, A_List, B_List, D_List_0, D_List_1, q_ev_eq]
    try kernel_rfl
  | cons f0 f1 ih0 =>
    funext x0
    show q_partsA_cons f0 f1 (q_partsA_r f1) x0 = _
    rw [ih0]
    refine Eq.trans ?_ (Eq.symm (partsA.eq_def ..))
    delta q_partsA_cons partsA.match_1
    simp only [A_Prod, B_Prod, D_Prod_0, A_List, B_List, D_List_0, D_List_1, q_ev_eq]
    try kernel_rfl
theorem q_partsA_eq : q_partsA = partsA := by
  funext x0 x1
  show q_partsA_r x1 x0 = _
  rw [q_partsA_req]
noncomputable def q_Listappend_nil : ((List AV) → (List AV)) := (fun a => a)
noncomputable def q_Listappend_cons : (AV → ((List AV) → (((List AV) → (List AV)) → ((List AV) → (List AV))))) := (fun a _ c d => (a :: (c d)))
noncomputable def q_Listappend_r : ((List AV) → ((List AV) → (List AV))) := (fun a => (@List.rec.{1, 0} AV (fun _ => ((List AV) → (List AV))) (fun b => b) (fun b _ d e => (b :: (d e))) a))
noncomputable def q_Listappend : ((List AV) → ((List AV) → (List AV))) := (fun a b => (q_Listappend_r a b))
theorem q_Listappend_req : ∀ t, q_Listappend_r t = fun x1 => (@List.append.{0} AV) t x1 := by
  intro t
  induction t with
  | nil  =>
    funext x1
    show q_Listappend_nil x1 = _
    skip
    refine Eq.trans ?_ (Eq.symm (List.append.eq_def ..))
    delta q_Listappend_nil List.append.match_1
    simp only [A_List, B_List, D_List_0, D_List_1]
    try kernel_rfl
  | cons f0 f1 ih0 =>
    funext x1
    show q_Listappend_cons f0 f1 (q_Listappend_r f1) x1 = _
    rw [ih0]
    refine Eq.trans ?_ (Eq.symm (List.append.eq_def ..))
    delta q_Listappend_cons List.append.match_1
    simp only [A_List, B_List, D_List_0, D_List_1]
    try kernel_rfl
theorem q_Listappend_eq : q_Listappend = (@List.append.{0} AV) := by
  funext x0 x1
  show q_Listappend_r x0 x1 = _
  rw [q_Listappend_req]
noncomputable def q_repeatA_zero : ((List AV) → (List AV)) := (fun _ => [])
noncomputable def q_repeatA_succ : (Nat → (((List AV) → (List AV)) → ((List AV) → (List AV)))) := (fun _ b c => (q_Listappend c (b c)))
noncomputable def q_repeatA_r : (Nat → ((List AV) → (List AV))) := (fun a => (@Nat.rec.{1} (fun _ => ((List AV) → (List AV))) (fun _ => []) (fun _ c d => (q_Listappend d (c d))) a))
noncomputable def q_repeatA : (Nat → ((List AV) → (List AV))) := (fun a b => (q_repeatA_r a b))
theorem q_repeatA_req : ∀ t, q_repeatA_r t = fun x1 => repeatA t x1 := by
  intro t
  induction t with
  | zero  =>
    funext x1
    show q_repeatA_zero x1 = _
    skip
    refine Eq.trans ?_ (Eq.symm (repeatA.eq_def ..))
    delta q_repeatA_zero strictN.match_1
    simp only [A_Nat, B_Nat, D_Nat_0, D_Nat_1, q_Listappend_eq]
    try kernel_rfl
  | succ f0 ih0 =>
    funext x1
    show q_repeatA_succ f0 (q_repeatA_r f0) x1 = _
    rw [ih0]
    refine Eq.trans ?_ (Eq.symm (repeatA.eq_def ..))
    delta q_repeatA_succ strictN.match_1
    simp only [A_Nat, B_Nat, D_Nat_0, D_Nat_1, q_Listappend_eq]
    try kernel_rfl
theorem q_repeatA_eq : q_repeatA = repeatA := by
  funext x0 x1
  show q_repeatA_r x0 x1 = _
  rw [q_repeatA_req]
noncomputable def q_buildSliceA : (Env → (Nat → (Nat → ((List (Prod Nat AV)) → (St → (Option (Prod AV St))))))) := (fun a b c d e => (@Option.rec.{1, 0} (Prod TyI St) (fun _ => (Env → (Nat → ((List (Prod Nat AV)) → (Option (Prod AV St)))))) (fun _ _ _ => none) (fun f g h i => (@Prod.rec.{1, 0, 0} TyI St (fun _ => (Env → (Nat → ((List (Prod Nat AV)) → (Option (Prod AV St)))))) (fun j k l m n => (@TypeDesc.rec.{1} (fun _ => (Env → (Nat → ((List (Prod Nat AV)) → (St → (Option (Prod AV St))))))) (fun _ _ _ _ => none) (fun _ _ _ _ => none) (fun _ _ _ _ _ => none) (fun _ _ _ _ _ => none) (fun _ _ _ _ _ => none) (fun _ _ _ _ => none) (fun _ _ _ _ => none) (fun _ _ _ _ _ => none) (fun o p q r s => (@Option.rec.{1, 0} (Prod TyI St) (fun _ => (Nat → ((List (Prod Nat AV)) → (Option (Prod AV St))))) (fun _ _ => none) (fun t u v => (@Prod.rec.{1, 0, 0} TyI St (fun _ => (Nat → ((List (Prod Nat AV)) → (Option (Prod AV St))))) (fun w x y z => (@Bool.rec.{1} (fun _ => (Nat → ((List (Prod Nat AV)) → (TyI → (St → (Option (Prod AV St))))))) (fun _ _ _ _ => none) (fun w26 w27 w28 w29 => (@Bool.rec.{1} (fun _ => (Nat → ((List (Prod Nat AV)) → (TyI → (St → (Option (Prod AV St))))))) (fun _ _ _ _ => none) (fun w30 w31 w32 w33 => (@Option.rec.{1, 0} (List AV) (fun _ => (Nat → (TyI → (St → (Option (Prod AV St)))))) (fun _ _ _ => none) (fun w34 w35 w36 w37 => (@Option.rec.{1, 0} (Prod Nat St) (fun _ => (Nat → (Option (Prod AV St)))) (fun _ => none) (fun w38 w39 => (@Prod.rec.{1, 0, 0} Nat St (fun _ => (Nat → (Option (Prod AV St)))) (fun w40 w41 w42 => (some ((AV.slice w40 (0 : Nat) w42 (ACap.lit w42)), w41))) w38 w39)) (q_newRowA (TyI.size w36) w34 w37) w35)) (q_fillA (fun w34 => (some ((Nat.mul w34 (TyI.size w32)), (TyI.size w32)))) (q_repeatA w30 (q_cellsOf (TyI.zero w32))) w31) w30 w32 w33)) (Nat.ble (Nat.succ (0 : Nat)) (TyI.size w28)) w26 w27 w28 w29)) (Nat.ble (Nat.mul y (TyI.size w)) (@OfNat.ofNat.{0} Nat (10000 : Nat) (instOfNatNat (10000 : Nat)))) y z w x)) t u v)) (@Option.rec.{1, 0} TyI (fun _ => (St → (Option (Prod TyI St)))) (fun _ => none) (fun t u => (some (t, u))) (Env.ty p o) s) q r)) (fun _ _ _ _ _ _ => none) (fun _ _ _ _ _ _ => none) (fun _ _ _ _ _ _ => none) (fun _ _ _ _ _ => none) (fun _ _ _ _ _ _ _ => none) (fun _ _ _ _ _ => none) (fun _ _ _ _ _ => none) (fun _ _ _ _ _ _ => none) (TyI.desc j) l m n k)) f g h i)) (@Option.rec.{1, 0} TyI (fun _ => (St → (Option (Prod TyI St)))) (fun _ => none) (fun f g => (some (f, g))) (Env.ty a b) e) a c d))
theorem q_buildSliceA_eq : q_buildSliceA = buildSliceA := by
  funext x0 x1 x2 x3 x4
  delta q_buildSliceA buildSliceA bnd bnd.match_1 tyOf ofOpt ofOpt.match_1 fail ret buildSliceA.match_1 allOne.match_1 Nat.blt loadA.match_1
  simp only [A_Option, B_Option, D_Option_0, D_Option_1, A_Prod, B_Prod, D_Prod_0, A_TypeDesc, B_TypeDesc, A_Bool, B_Bool, D_Bool_0, D_Bool_1, S9, q_fillA_eq, q_repeatA_eq, q_cellsOf_eq, q_newRowA_eq]
  try kernel_rfl
noncomputable def q_findA_nil : (Env → (Nat → (AV → (Nat → (Option (Option (Prod Nat AV))))))) := (fun _ _ _ _ => (some none))
noncomputable def q_findA_cons : ((Prod AV (Prod AV Nat)) → ((List (Prod AV (Prod AV Nat))) → ((Env → (Nat → (AV → (Nat → (Option (Option (Prod Nat AV))))))) → (Env → (Nat → (AV → (Nat → (Option (Option (Prod Nat AV)))))))))) := (fun a _ c d e f g => (@Prod.rec.{1, 0, 0} AV (Prod AV Nat) (fun _ => (Env → (Nat → (AV → (Nat → ((Env → (Nat → (AV → (Nat → (Option (Option (Prod Nat AV))))))) → (Option (Option (Prod Nat AV))))))))) (fun h i j k l m n => (@Prod.rec.{1, 0, 0} AV Nat (fun _ => (Env → (Nat → (AV → (Nat → ((Env → (Nat → (AV → (Nat → (Option (Option (Prod Nat AV))))))) → (AV → (Option (Option (Prod Nat AV)))))))))) (fun o _ q r s t u v => (@Option.rec.{1, 0} Bool (fun _ => (Env → (Nat → (AV → (Nat → ((Env → (Nat → (AV → (Nat → (Option (Option (Prod Nat AV))))))) → (AV → (Option (Option (Prod Nat AV)))))))))) (fun _ _ _ _ _ _ => none) (fun w x y z w26 w27 w28 => (@Bool.rec.{1} (fun _ => (Env → (Nat → (AV → (Nat → ((Env → (Nat → (AV → (Nat → (Option (Option (Prod Nat AV))))))) → (AV → (Option (Option (Prod Nat AV)))))))))) (fun w29 w30 w31 w32 w33 _ => (w33 w29 w30 w31 (Nat.add w32 (1 : Nat)))) (fun _ _ _ w32 _ w34 => (some (some (w32, w34)))) w x y z w26 w27 w28)) (eqT q (50 : Nat) r s v) q r s t u o)) i j k l m n h)) a d e f g c))
noncomputable def q_findA_r : ((List (Prod AV (Prod AV Nat))) → (Env → (Nat → (AV → (Nat → (Option (Option (Prod Nat AV)))))))) := (fun a => (@List.rec.{1, 0} (Prod AV (Prod AV Nat)) (fun _ => (Env → (Nat → (AV → (Nat → (Option (Option (Prod Nat AV)))))))) (fun _ _ _ _ => (some none)) (fun b _ d e f g h => (@Prod.rec.{1, 0, 0} AV (Prod AV Nat) (fun _ => (Env → (Nat → (AV → (Nat → ((Env → (Nat → (AV → (Nat → (Option (Option (Prod Nat AV))))))) → (Option (Option (Prod Nat AV))))))))) (fun i j k l m n o => (@Prod.rec.{1, 0, 0} AV Nat (fun _ => (Env → (Nat → (AV → (Nat → ((Env → (Nat → (AV → (Nat → (Option (Option (Prod Nat AV))))))) → (AV → (Option (Option (Prod Nat AV)))))))))) (fun p _ r s t u v w => (@Option.rec.{1, 0} Bool (fun _ => (Env → (Nat → (AV → (Nat → ((Env → (Nat → (AV → (Nat → (Option (Option (Prod Nat AV))))))) → (AV → (Option (Option (Prod Nat AV)))))))))) (fun _ _ _ _ _ _ => none) (fun x y z w26 w27 w28 w29 => (@Bool.rec.{1} (fun _ => (Env → (Nat → (AV → (Nat → ((Env → (Nat → (AV → (Nat → (Option (Option (Prod Nat AV))))))) → (AV → (Option (Option (Prod Nat AV)))))))))) (fun w30 w31 w32 w33 w34 _ => (w34 w30 w31 w32 (Nat.add w33 (1 : Nat)))) (fun _ _ _ w33 _ w35 => (some (some (w33, w35)))) x y z w26 w27 w28 w29)) (eqT r (50 : Nat) s t w) r s t u v p)) j k l m n o i)) b e f g h d)) a))
noncomputable def q_findA : (Env → (Nat → (AV → ((List (Prod AV (Prod AV Nat))) → (Nat → (Option (Option (Prod Nat AV)))))))) := (fun a b c d e => (q_findA_r d a b c e))
theorem q_findA_req : ∀ t, q_findA_r t = fun x0 x1 x2 x4 => findA x0 x1 x2 t x4 := by
  intro t
  induction t with
  | nil  =>
    funext x0 x1 x2 x4
    show q_findA_nil x0 x1 x2 x4 = _
    skip
    refine Eq.trans ?_ (Eq.symm (findA.eq_def ..))
    delta q_findA_nil findA.match_2 findA.match_1
    simp only [A_Prod, B_Prod, D_Prod_0, A_Option, B_Option, D_Option_0, D_Option_1, A_Bool, B_Bool, D_Bool_0, D_Bool_1, A_List, B_List, D_List_0, D_List_1]
    try kernel_rfl
  | cons f0 f1 ih0 =>
    funext x0 x1 x2 x4
    show q_findA_cons f0 f1 (q_findA_r f1) x0 x1 x2 x4 = _
    rw [ih0]
    refine Eq.trans ?_ (Eq.symm (findA.eq_def ..))
    delta q_findA_cons findA.match_2 findA.match_1
    simp only [A_Prod, B_Prod, D_Prod_0, A_Option, B_Option, D_Option_0, D_Option_1, A_Bool, B_Bool, D_Bool_0, D_Bool_1, A_List, B_List, D_List_0, D_List_1]
    try kernel_rfl
theorem q_findA_eq : q_findA = findA := by
  funext x0 x1 x2 x3 x4
  show q_findA_r x3 x0 x1 x2 x4 = _
  rw [q_findA_req]
noncomputable def q_Listappend1_nil : ((List (Prod AV (Prod AV Nat))) → (List (Prod AV (Prod AV Nat)))) := (fun a => a)
noncomputable def q_Listappend1_cons : ((Prod AV (Prod AV Nat)) → ((List (Prod AV (Prod AV Nat))) → (((List (Prod AV (Prod AV Nat))) → (List (Prod AV (Prod AV Nat)))) → ((List (Prod AV (Prod AV Nat))) → (List (Prod AV (Prod AV Nat))))))) := (fun a _ c d => (a :: (c d)))
noncomputable def q_Listappend1_r : ((List (Prod AV (Prod AV Nat))) → ((List (Prod AV (Prod AV Nat))) → (List (Prod AV (Prod AV Nat))))) := (fun a => (@List.rec.{1, 0} (Prod AV (Prod AV Nat)) (fun _ => ((List (Prod AV (Prod AV Nat))) → (List (Prod AV (Prod AV Nat))))) (fun b => b) (fun b _ d e => (b :: (d e))) a))
noncomputable def q_Listappend1 : ((List (Prod AV (Prod AV Nat))) → ((List (Prod AV (Prod AV Nat))) → (List (Prod AV (Prod AV Nat))))) := (fun a b => (q_Listappend1_r a b))
theorem q_Listappend1_req : ∀ t, q_Listappend1_r t = fun x1 => (@List.append.{0} (Prod AV (Prod AV Nat))) t x1 := by
  intro t
  induction t with
  | nil  =>
    funext x1
    show q_Listappend1_nil x1 = _
    skip
    refine Eq.trans ?_ (Eq.symm (List.append.eq_def ..))
    delta q_Listappend1_nil List.append.match_1
    simp only [A_List, B_List, D_List_0, D_List_1]
    try kernel_rfl
  | cons f0 f1 ih0 =>
    funext x1
    show q_Listappend1_cons f0 f1 (q_Listappend1_r f1) x1 = _
    rw [ih0]
    refine Eq.trans ?_ (Eq.symm (List.append.eq_def ..))
    delta q_Listappend1_cons List.append.match_1
    simp only [A_List, B_List, D_List_0, D_List_1]
    try kernel_rfl
theorem q_Listappend1_eq : q_Listappend1 = (@List.append.{0} (Prod AV (Prod AV Nat))) := by
  funext x0 x1
  show q_Listappend1_r x0 x1 = _
  rw [q_Listappend1_req]
noncomputable def q_keyAt_nil : (Nat → (Option AV)) := (fun _ => none)
noncomputable def q_keyAt_cons : ((Prod AV (Prod AV Nat)) → ((List (Prod AV (Prod AV Nat))) → ((Nat → (Option AV)) → (Nat → (Option AV))))) := (fun a _ c d => (@Prod.rec.{1, 0, 0} AV (Prod AV Nat) (fun _ => (Nat → ((Nat → (Option AV)) → (Option AV)))) (fun e f g h => (@Prod.rec.{1, 0, 0} AV Nat (fun _ => (Nat → ((Nat → (Option AV)) → (AV → (Option AV))))) (fun _ _ k l m => (@Nat.rec.{1} (fun _ => ((Nat → (Option AV)) → (AV → (Option AV)))) (fun _ o => (some o)) (fun n _ p _ => (p n)) k l m)) f g h e)) a d c))
noncomputable def q_keyAt_r : ((List (Prod AV (Prod AV Nat))) → (Nat → (Option AV))) := (fun a => (@List.rec.{1, 0} (Prod AV (Prod AV Nat)) (fun _ => (Nat → (Option AV))) (fun _ => none) (fun b _ d e => (@Prod.rec.{1, 0, 0} AV (Prod AV Nat) (fun _ => (Nat → ((Nat → (Option AV)) → (Option AV)))) (fun f g h i => (@Prod.rec.{1, 0, 0} AV Nat (fun _ => (Nat → ((Nat → (Option AV)) → (AV → (Option AV))))) (fun _ _ l m n => (@Nat.rec.{1} (fun _ => ((Nat → (Option AV)) → (AV → (Option AV)))) (fun _ p => (some p)) (fun o _ q _ => (q o)) l m n)) g h i f)) b e d)) a))
noncomputable def q_keyAt : ((List (Prod AV (Prod AV Nat))) → (Nat → (Option AV))) := (fun a b => (q_keyAt_r a b))
theorem q_keyAt_req : ∀ t, q_keyAt_r t = fun x1 => keyAt t x1 := by
  intro t
  induction t with
  | nil  =>
    funext x1
    show q_keyAt_nil x1 = _
    skip
    refine Eq.trans ?_ (Eq.symm (keyAt.eq_def ..))
    delta q_keyAt_nil putAt.match_1
    simp only [A_Prod, B_Prod, D_Prod_0, A_Nat, B_Nat, D_Nat_0, D_Nat_1, A_List, B_List, D_List_0, D_List_1]
    try kernel_rfl
  | cons f0 f1 ih0 =>
    funext x1
    show q_keyAt_cons f0 f1 (q_keyAt_r f1) x1 = _
    rw [ih0]
    refine Eq.trans ?_ (Eq.symm (keyAt.eq_def ..))
    delta q_keyAt_cons putAt.match_1
    simp only [A_Prod, B_Prod, D_Prod_0, A_Nat, B_Nat, D_Nat_0, D_Nat_1, A_List, B_List, D_List_0, D_List_1]
    try kernel_rfl
theorem q_keyAt_eq : q_keyAt = keyAt := by
  funext x0 x1
  show q_keyAt_r x0 x1 = _
  rw [q_keyAt_req]
noncomputable def q_beqK : (IntKind → (IntKind → Bool)) := (fun a b => (@IntKind.rec.{1} (fun _ => (IntKind → Bool)) (fun c => (@IntKind.rec.{1} (fun _ => Bool) Bool.true Bool.false Bool.false Bool.false Bool.false Bool.false Bool.false Bool.false c)) (fun c => (@IntKind.rec.{1} (fun _ => Bool) Bool.false Bool.true Bool.false Bool.false Bool.false Bool.false Bool.false Bool.false c)) (fun c => (@IntKind.rec.{1} (fun _ => Bool) Bool.false Bool.false Bool.true Bool.false Bool.false Bool.false Bool.false Bool.false c)) (fun c => (@IntKind.rec.{1} (fun _ => Bool) Bool.false Bool.false Bool.false Bool.true Bool.false Bool.false Bool.false Bool.false c)) (fun c => (@IntKind.rec.{1} (fun _ => Bool) Bool.false Bool.false Bool.false Bool.false Bool.true Bool.false Bool.false Bool.false c)) (fun c => (@IntKind.rec.{1} (fun _ => Bool) Bool.false Bool.false Bool.false Bool.false Bool.false Bool.true Bool.false Bool.false c)) (fun c => (@IntKind.rec.{1} (fun _ => Bool) Bool.false Bool.false Bool.false Bool.false Bool.false Bool.false Bool.true Bool.false c)) (fun c => (@IntKind.rec.{1} (fun _ => Bool) Bool.false Bool.false Bool.false Bool.false Bool.false Bool.false Bool.false Bool.true c)) a b))
theorem q_beqK_eq : q_beqK = beqK := by
  funext x0 x1
  delta q_beqK beqK beqK.match_1
  simp only [A_IntKind, B_IntKind, S10, S11, S12, S13, S14, S15, S16, S17]
  try kernel_rfl
noncomputable def q_beqI : (Int → (Int → Bool)) := (fun a b => (@Int.rec.{1} (fun _ => (Int → Bool)) (fun c d => (@Int.rec.{1} (fun _ => (Nat → Bool)) (fun e f => (Nat.beq f e)) (fun _ _ => Bool.false) d c)) (fun c d => (@Int.rec.{1} (fun _ => (Nat → Bool)) (fun _ _ => Bool.false) (fun e f => (Nat.beq f e)) d c)) a b))
theorem q_beqI_eq : q_beqI = beqI := by
  funext x0 x1
  delta q_beqI beqI beqI.match_1
  simp only [A_Int, B_Int, D_Int_0, D_Int_1, S18, S19]
  try kernel_rfl
noncomputable def q_beqB_nil : ((List UInt8) → Bool) := (fun a => (@List.rec.{1, 0} UInt8 (fun _ => (PUnit.{1} → Bool)) (fun _ => Bool.true) (fun _ _ _ _ => Bool.false) a PUnit.unit.{1}))
noncomputable def q_beqB_cons : (UInt8 → ((List UInt8) → (((List UInt8) → Bool) → ((List UInt8) → Bool)))) := (fun a _ c d => (@List.rec.{1, 0} UInt8 (fun _ => (UInt8 → (((List UInt8) → Bool) → Bool))) (fun _ _ => Bool.false) (fun e f _ h i => (@Bool.rec.{1} (fun _ => (((List UInt8) → Bool) → ((List UInt8) → Bool))) (fun _ _ => Bool.false) (fun j k => (j k)) (Nat.beq (UInt8.toNat h) (UInt8.toNat e)) i f)) d a c))
noncomputable def q_beqB_r : ((List UInt8) → ((List UInt8) → Bool)) := (fun a => (@List.rec.{1, 0} UInt8 (fun _ => ((List UInt8) → Bool)) (fun b => (@List.rec.{1, 0} UInt8 (fun _ => (PUnit.{1} → Bool)) (fun _ => Bool.true) (fun _ _ _ _ => Bool.false) b PUnit.unit.{1})) (fun b _ d e => (@List.rec.{1, 0} UInt8 (fun _ => (UInt8 → (((List UInt8) → Bool) → Bool))) (fun _ _ => Bool.false) (fun f g _ i j => (@Bool.rec.{1} (fun _ => (((List UInt8) → Bool) → ((List UInt8) → Bool))) (fun _ _ => Bool.false) (fun k l => (k l)) (Nat.beq (UInt8.toNat i) (UInt8.toNat f)) j g)) e b d)) a))
noncomputable def q_beqB : ((List UInt8) → ((List UInt8) → Bool)) := (fun a b => (q_beqB_r a b))
theorem q_beqB_req : ∀ t, q_beqB_r t = fun x1 => beqB t x1 := by
  intro t
  induction t with
  | nil  =>
    funext x1
    show q_beqB_nil x1 = _
    skip
    refine Eq.trans ?_ (Eq.symm (beqB.eq_def ..))
    delta q_beqB_nil beqB.match_1 allOne.match_1
    simp only [A_List, B_List, D_List_0, D_List_1, A_Bool, B_Bool, D_Bool_0, D_Bool_1, S20, S21]
    try kernel_rfl
  | cons f0 f1 ih0 =>
    funext x1
    show q_beqB_cons f0 f1 (q_beqB_r f1) x1 = _
    rw [ih0]
    refine Eq.trans ?_ (Eq.symm (beqB.eq_def ..))
    delta q_beqB_cons beqB.match_1 allOne.match_1
    simp only [A_List, B_List, D_List_0, D_List_1, A_Bool, B_Bool, D_Bool_0, D_Bool_1, S20, S21]
    try kernel_rfl
theorem q_beqB_eq : q_beqB = beqB := by
  funext x0 x1
  show q_beqB_r x0 x1 = _
  rw [q_beqB_req]
noncomputable def q_same1 : (AV → (AV → Bool)) := (fun a b => (@AV.rec.{1} (fun _ => (AV → Bool)) (fun _ => PUnit.{1}) (fun c d => (@Bool.rec.{1} (fun _ => (AV → Bool)) (fun e => (@AV.rec.{1} (fun _ => Bool) (fun _ => PUnit.{1}) (fun f => (@Bool.rec.{1} (fun _ => Bool) Bool.true Bool.false f)) (fun _ _ => Bool.false) (fun _ => Bool.false) (fun _ _ => Bool.false) Bool.false (fun _ _ _ _ => Bool.false) (fun _ _ _ _ => Bool.false) Bool.false (fun _ => Bool.false) Bool.false (fun _ => Bool.false) Bool.false (fun _ _ _ _ _ => Bool.false) (fun _ => Bool.false) Bool.false (fun _ _ _ => Bool.false) Bool.false (fun _ _ => Bool.false) (fun _ _ => Bool.false) (fun _ => Bool.false) PUnit.unit.{1} (fun _ _ _ _ => PUnit.unit.{1}) e)) (fun e => (@AV.rec.{1} (fun _ => Bool) (fun _ => PUnit.{1}) (fun f => (@Bool.rec.{1} (fun _ => Bool) Bool.false Bool.true f)) (fun _ _ => Bool.false) (fun _ => Bool.false) (fun _ _ => Bool.false) Bool.false (fun _ _ _ _ => Bool.false) (fun _ _ _ _ => Bool.false) Bool.false (fun _ => Bool.false) Bool.false (fun _ => Bool.false) Bool.false (fun _ _ _ _ _ => Bool.false) (fun _ => Bool.false) Bool.false (fun _ _ _ => Bool.false) Bool.false (fun _ _ => Bool.false) (fun _ _ => Bool.false) (fun _ => Bool.false) PUnit.unit.{1} (fun _ _ _ _ => PUnit.unit.{1}) e)) c d)) (fun c d e => (@AV.rec.{1} (fun _ => (IntKind → (Int → Bool))) (fun _ => PUnit.{1}) (fun _ _ _ => Bool.false) (fun f g h i => (@Bool.rec.{1} (fun _ => (Int → (Int → Bool))) (fun _ _ => Bool.false) (fun j k => (q_beqI j k)) (q_beqK h f) i g)) (fun _ _ _ => Bool.false) (fun _ _ _ _ => Bool.false) (fun _ _ => Bool.false) (fun _ _ _ _ _ _ => Bool.false) (fun _ _ _ _ _ _ => Bool.false) (fun _ _ => Bool.false) (fun _ _ _ => Bool.false) (fun _ _ => Bool.false) (fun _ _ _ => Bool.false) (fun _ _ => Bool.false) (fun _ _ _ _ _ _ _ => Bool.false) (fun _ _ _ => Bool.false) (fun _ _ => Bool.false) (fun _ _ _ _ _ => Bool.false) (fun _ _ => Bool.false) (fun _ _ _ _ => Bool.false) (fun _ _ _ _ => Bool.false) (fun _ _ _ => Bool.false) PUnit.unit.{1} (fun _ _ _ _ => PUnit.unit.{1}) e c d)) (fun c d => (@AV.rec.{1} (fun _ => ((List UInt8) → Bool)) (fun _ => PUnit.{1}) (fun _ _ => Bool.false) (fun _ _ _ => Bool.false) (fun e f => (q_beqB f e)) (fun _ _ _ => Bool.false) (fun _ => Bool.false) (fun _ _ _ _ _ => Bool.false) (fun _ _ _ _ _ => Bool.false) (fun _ => Bool.false) (fun _ _ => Bool.false) (fun _ => Bool.false) (fun _ _ => Bool.false) (fun _ => Bool.false) (fun _ _ _ _ _ _ => Bool.false) (fun _ _ => Bool.false) (fun _ => Bool.false) (fun _ _ _ _ => Bool.false) (fun _ => Bool.false) (fun _ _ _ => Bool.false) (fun _ _ _ => Bool.false) (fun _ _ => Bool.false) PUnit.unit.{1} (fun _ _ _ _ => PUnit.unit.{1}) d c)) (fun _ _ _ => Bool.false) (fun _ => Bool.false) (fun _ _ _ _ _ => Bool.false) (fun _ _ _ _ _ => Bool.false) (fun _ => Bool.false) (fun _ _ => Bool.false) (fun _ => Bool.false) (fun _ _ => Bool.false) (fun _ => Bool.false) (fun _ _ _ _ _ _ => Bool.false) (fun _ _ => Bool.false) (fun _ => Bool.false) (fun _ _ _ _ => Bool.false) (fun _ => Bool.false) (fun _ _ _ => Bool.false) (fun _ _ _ => Bool.false) (fun _ _ => Bool.false) PUnit.unit.{1} (fun _ _ _ _ => PUnit.unit.{1}) a b))
theorem q_same1_eq : q_same1 = same1 := by
  funext x0 x1
  delta q_same1 same1 same1.match_1 allOne.match_1
  simp only [A_AV, B_AV, A_Bool, B_Bool, D_Bool_0, D_Bool_1, S22, S23, S24, S25, S26, S27, q_beqK_eq, q_beqI_eq, q_beqB_eq]
  try kernel_rfl
noncomputable def q_sameL_nil : ((List AV) → Bool) := (fun a => (@List.rec.{1, 0} AV (fun _ => (PUnit.{1} → Bool)) (fun _ => Bool.true) (fun _ _ _ _ => Bool.false) a PUnit.unit.{1}))
noncomputable def q_sameL_cons : (AV → ((List AV) → (((List AV) → Bool) → ((List AV) → Bool)))) := (fun a _ c d => (@List.rec.{1, 0} AV (fun _ => (AV → (((List AV) → Bool) → Bool))) (fun _ _ => Bool.false) (fun e f _ h i => (@Bool.rec.{1} (fun _ => (((List AV) → Bool) → ((List AV) → Bool))) (fun _ _ => Bool.false) (fun j k => (j k)) (q_same1 h e) i f)) d a c))
noncomputable def q_sameL_r : ((List AV) → ((List AV) → Bool)) := (fun a => (@List.rec.{1, 0} AV (fun _ => ((List AV) → Bool)) (fun b => (@List.rec.{1, 0} AV (fun _ => (PUnit.{1} → Bool)) (fun _ => Bool.true) (fun _ _ _ _ => Bool.false) b PUnit.unit.{1})) (fun b _ d e => (@List.rec.{1, 0} AV (fun _ => (AV → (((List AV) → Bool) → Bool))) (fun _ _ => Bool.false) (fun f g _ i j => (@Bool.rec.{1} (fun _ => (((List AV) → Bool) → ((List AV) → Bool))) (fun _ _ => Bool.false) (fun k l => (k l)) (q_same1 i f) j g)) e b d)) a))
noncomputable def q_sameL : ((List AV) → ((List AV) → Bool)) := (fun a b => (q_sameL_r a b))
theorem q_sameL_req : ∀ t, q_sameL_r t = fun x1 => sameL t x1 := by
  intro t
  induction t with
  | nil  =>
    funext x1
    show q_sameL_nil x1 = _
    skip
    refine Eq.trans ?_ (Eq.symm (sameL.eq_def ..))
    delta q_sameL_nil sameL.match_1 allOne.match_1
    simp only [A_List, B_List, D_List_0, D_List_1, A_Bool, B_Bool, D_Bool_0, D_Bool_1, S20, S21, q_same1_eq]
    try kernel_rfl
  | cons f0 f1 ih0 =>
    funext x1
    show q_sameL_cons f0 f1 (q_sameL_r f1) x1 = _
    rw [ih0]
    refine Eq.trans ?_ (Eq.symm (sameL.eq_def ..))
    delta q_sameL_cons sameL.match_1 allOne.match_1
    simp only [A_List, B_List, D_List_0, D_List_1, A_Bool, B_Bool, D_Bool_0, D_Bool_1, S20, S21, q_same1_eq]
    try kernel_rfl
theorem q_sameL_eq : q_sameL = sameL := by
  funext x0 x1
  show q_sameL_r x0 x1 = _
  rw [q_sameL_req]
noncomputable def q_sameA : (AV → (AV → Bool)) := (fun a b => (@AV.rec.{1} (fun _ => (AV → (Bool → Bool))) (fun _ => PUnit.{1}) (fun _ _ e => e) (fun _ _ _ f => f) (fun _ _ e => e) (fun _ _ _ f => f) (fun _ d => d) (fun _ _ _ _ _ h => h) (fun _ _ _ _ _ h => h) (fun _ d => d) (fun _ _ e => e) (fun _ d => d) (fun _ _ e => e) (fun _ d => d) (fun _ _ _ _ _ _ i => i) (fun _ _ e => e) (fun _ d => d) (fun _ _ _ _ g => g) (fun _ d => d) (fun c _ e _ => (@AV.rec.{1} (fun _ => ((List AV) → (Bool → Bool))) (fun _ => PUnit.{1}) (fun _ _ i => i) (fun _ _ _ j => j) (fun _ _ i => i) (fun _ _ _ j => j) (fun _ h => h) (fun _ _ _ _ _ l => l) (fun _ _ _ _ _ l => l) (fun _ h => h) (fun _ _ i => i) (fun _ h => h) (fun _ _ i => i) (fun _ h => h) (fun _ _ _ _ _ _ m => m) (fun _ _ i => i) (fun _ h => h) (fun _ _ _ _ k => k) (fun _ h => h) (fun g _ i _ => (q_sameL i g)) (fun _ _ _ j => j) (fun _ _ i => i) PUnit.unit.{1} (fun _ _ _ _ => PUnit.unit.{1}) e c (q_same1 (AV.agg c) e))) (fun _ _ _ f => f) (fun _ _ e => e) PUnit.unit.{1} (fun _ _ _ _ => PUnit.unit.{1}) a b (q_same1 a b)))
theorem q_sameA_eq : q_sameA = sameA := by
  funext x0 x1
  delta q_sameA sameA sameA.match_1
  simp only [A_AV, B_AV, S7, q_same1_eq, q_sameL_eq]
  try kernel_rfl
noncomputable def q_putAt_nil : (AV → (Nat → (List (Prod AV (Prod AV Nat))))) := (fun _ _ => [])
noncomputable def q_putAt_cons : ((Prod AV (Prod AV Nat)) → ((List (Prod AV (Prod AV Nat))) → ((AV → (Nat → (List (Prod AV (Prod AV Nat))))) → (AV → (Nat → (List (Prod AV (Prod AV Nat)))))))) := (fun a b c d e => (@Prod.rec.{1, 0, 0} AV (Prod AV Nat) (fun _ => (AV → (Nat → ((List (Prod AV (Prod AV Nat))) → ((AV → (Nat → (List (Prod AV (Prod AV Nat))))) → (List (Prod AV (Prod AV Nat)))))))) (fun f g h i j k => (@Prod.rec.{1, 0, 0} AV Nat (fun _ => (AV → (Nat → ((List (Prod AV (Prod AV Nat))) → ((AV → (Nat → (List (Prod AV (Prod AV Nat))))) → (AV → (List (Prod AV (Prod AV Nat))))))))) (fun l m n o p q r => (@Nat.rec.{1} (fun _ => (AV → ((List (Prod AV (Prod AV Nat))) → ((AV → (Nat → (List (Prod AV (Prod AV Nat))))) → (AV → (AV → (Nat → (List (Prod AV (Prod AV Nat)))))))))) (fun s t _ v _ x => ((v, (s, x)) :: t)) (fun s _ u _ w x y z => ((fun (w26 : (Prod AV (Prod AV Nat))) => (w26 :: (w u s))) (x, (y, z)))) o n p q r l m)) g h i j k f)) a d e b c))
noncomputable def q_putAt_r : ((List (Prod AV (Prod AV Nat))) → (AV → (Nat → (List (Prod AV (Prod AV Nat)))))) := (fun a => (@List.rec.{1, 0} (Prod AV (Prod AV Nat)) (fun _ => (AV → (Nat → (List (Prod AV (Prod AV Nat)))))) (fun _ _ => []) (fun b c d e f => (@Prod.rec.{1, 0, 0} AV (Prod AV Nat) (fun _ => (AV → (Nat → ((List (Prod AV (Prod AV Nat))) → ((AV → (Nat → (List (Prod AV (Prod AV Nat))))) → (List (Prod AV (Prod AV Nat)))))))) (fun g h i j k l => (@Prod.rec.{1, 0, 0} AV Nat (fun _ => (AV → (Nat → ((List (Prod AV (Prod AV Nat))) → ((AV → (Nat → (List (Prod AV (Prod AV Nat))))) → (AV → (List (Prod AV (Prod AV Nat))))))))) (fun m n o p q r s => (@Nat.rec.{1} (fun _ => (AV → ((List (Prod AV (Prod AV Nat))) → ((AV → (Nat → (List (Prod AV (Prod AV Nat))))) → (AV → (AV → (Nat → (List (Prod AV (Prod AV Nat)))))))))) (fun t u _ w _ y => ((w, (t, y)) :: u)) (fun t _ v _ x y z w26 => ((fun (w27 : (Prod AV (Prod AV Nat))) => (w27 :: (x v t))) (y, (z, w26)))) p o q r s m n)) h i j k l g)) b e f c d)) a))
noncomputable def q_putAt : (AV → ((List (Prod AV (Prod AV Nat))) → (Nat → (List (Prod AV (Prod AV Nat)))))) := (fun a b c => (q_putAt_r b a c))
theorem q_putAt_req : ∀ t, q_putAt_r t = fun x0 x2 => putAt x0 t x2 := by
  intro t
  induction t with
  | nil  =>
    funext x0 x2
    show q_putAt_nil x0 x2 = _
    skip
    refine Eq.trans ?_ (Eq.symm (putAt.eq_def ..))
    delta q_putAt_nil putAt.match_1
    simp only [A_Prod, B_Prod, D_Prod_0, A_Nat, B_Nat, D_Nat_0, D_Nat_1, A_List, B_List, D_List_0, D_List_1]
    try kernel_rfl
  | cons f0 f1 ih0 =>
    funext x0 x2
    show q_putAt_cons f0 f1 (q_putAt_r f1) x0 x2 = _
    rw [ih0]
    refine Eq.trans ?_ (Eq.symm (putAt.eq_def ..))
    delta q_putAt_cons putAt.match_1
    simp only [A_Prod, B_Prod, D_Prod_0, A_Nat, B_Nat, D_Nat_0, D_Nat_1, A_List, B_List, D_List_0, D_List_1]
    try kernel_rfl
theorem q_putAt_eq : q_putAt = putAt := by
  funext x0 x1 x2
  show q_putAt_r x1 x0 x2 = _
  rw [q_putAt_req]
noncomputable def q_mapUpdateA : (Env → (Nat → (AV → (AV → (AV → (St → (Option (Prod Unit St)))))))) := (fun a b c d e f => (@Option.rec.{1, 0} (Prod TyI St) (fun _ => (Env → (AV → (AV → (AV → (Option (Prod Unit St))))))) (fun _ _ _ _ => none) (fun g h i j k => (@Prod.rec.{1, 0, 0} TyI St (fun _ => (Env → (AV → (AV → (AV → (Option (Prod Unit St))))))) (fun l m n o p q => (@TypeDesc.rec.{1} (fun _ => (Env → (AV → (AV → (AV → (St → (Option (Prod Unit St)))))))) (fun _ _ _ _ _ => none) (fun _ _ _ _ _ => none) (fun _ _ _ _ _ _ => none) (fun _ _ _ _ _ _ => none) (fun _ _ _ _ _ _ => none) (fun _ _ _ _ _ => none) (fun _ _ _ _ _ => none) (fun _ _ _ _ _ _ => none) (fun _ _ _ _ _ _ => none) (fun _ _ _ _ _ _ _ => none) (fun r _ t u v w x => (@Bool.rec.{1} (fun _ => (Env → (AV → (AV → (AV → (TypeId → (St → (Option (Prod Unit St))))))))) (fun _ _ _ _ _ _ => none) (fun y z w26 w27 w28 w29 => (@AV.rec.{1} (fun _ => (Env → (AV → (AV → (TypeId → (St → (Option (Prod Unit St)))))))) (fun _ => PUnit.{1}) (fun _ _ _ _ _ _ => none) (fun _ _ _ _ _ _ _ => none) (fun _ _ _ _ _ _ => none) (fun _ _ _ _ _ _ _ => none) (fun _ _ _ _ _ => none) (fun _ _ _ _ _ _ _ _ _ => none) (fun _ _ _ _ _ _ _ _ _ => none) (fun _ _ _ _ _ => none) (fun w30 w31 w32 w33 w34 w35 => (@Option.rec.{1, 0} (Prod (Prod (List (Prod AV (Prod AV Nat))) Nat) St) (fun _ => (Env → (AV → (AV → (TypeId → (Nat → (Option (Prod Unit St)))))))) (fun _ _ _ _ _ => none) (fun w36 w37 w38 w39 w40 w41 => (@Prod.rec.{1, 0, 0} (Prod (List (Prod AV (Prod AV Nat))) Nat) St (fun _ => (Env → (AV → (AV → (TypeId → (Nat → (Option (Prod Unit St)))))))) (fun w42 w43 w44 w45 w46 w47 w48 => (@Option.rec.{1, 0} (Option (Prod Nat AV)) (fun _ => (AV → (AV → (Nat → ((Prod (List (Prod AV (Prod AV Nat))) Nat) → (St → (Option (Prod Unit St)))))))) (fun _ _ _ _ _ => none) (fun w49 w50 w51 w52 w53 w54 => (@Option.rec.{1, 0} (Prod Nat AV) (fun _ => (AV → (AV → (Nat → ((Prod (List (Prod AV (Prod AV Nat))) Nat) → (St → (Option (Prod Unit St)))))))) (fun w55 w56 w57 w58 w59 => ((fun (w60 : (Nat → (St → (Option (Prod Unit St))))) => (@Nat.rec.{1} (fun _ => ((Nat → (St → (Option (Prod Unit St)))) → (St → (Option (Prod Unit St))))) (fun w61 w62 => (w61 (0 : Nat) w62)) (fun w61 _ w63 w64 => (w63 (Nat.add w61 (1 : Nat)) w64)) (Nat.add w58.2 (1 : Nat)) w60 w59)) (fun w60 w61 => (@St.rec.{1} (fun _ => (AV → (AV → (Nat → ((Prod (List (Prod AV (Prod AV Nat))) Nat) → (Nat → (Option (Prod Unit St)))))))) (fun w62 w63 w64 w65 w66 w67 w68 w69 w70 => (@Option.rec.{1, 0} AObj (fun _ => (AV → (AV → (Nat → ((Prod (List (Prod AV (Prod AV Nat))) Nat) → (Nat → ((T AObj) → (Nat → (Ks → (Ks → (Option (Prod Unit St)))))))))))) (fun _ _ _ _ _ _ _ _ _ => none) (fun _ w72 w73 w74 w75 w76 w77 w78 w79 w80 => ((fun (w81 : ((T AObj) → (Option (Prod Unit St)))) => (@T.rec.{1} AObj (fun _ => (((T AObj) → (Option (Prod Unit St))) → (Option (Prod Unit St)))) (fun w82 => (w82 (@T.nil AObj))) (fun w82 w83 w84 w85 w86 w87 w88 w89 w90 _ _ _ _ _ _ _ _ w99 => (w99 (@T.node AObj w82 w83 w84 w85 w86 w87 w88 w89 w90))) (q_TsetP (q_pathF w74 w74) w77 (some (AObj.map (q_Listappend1 w75.1 ((w72, (w73, w75.2)) :: [])) w76))) w81)) (fun w81 => ((fun (w82 : (Ks → (Option (Prod Unit St)))) => (@Nat.rec.{1} (fun _ => ((Ks → (Option (Prod Unit St))) → (Option (Prod Unit St)))) (fun w83 => (w83 (0 : Nat))) (fun w83 _ w85 => (w85 (Nat.add w83 (1 : Nat)))) (Nat.lor w79 (Nat.shiftLeft (@OfNat.ofNat.{0} Nat (1 : Nat) (instOfNatNat (1 : Nat))) w74)) w82)) (fun w82 => ((fun (w83 : (Ks → (Option (Prod Unit St)))) => (@Nat.rec.{1} (fun _ => ((Ks → (Option (Prod Unit St))) → (Option (Prod Unit St)))) (fun w84 => (w84 (0 : Nat))) (fun w84 _ w86 => (w86 (Nat.add w84 (1 : Nat)))) (Nat.lor w80 (Nat.shiftLeft (@OfNat.ofNat.{0} Nat (1 : Nat) (instOfNatNat (1 : Nat))) w74)) w83)) (fun w83 => (some (Unit.unit, (St.mk w81 w78 w82 w83)))))))))) (q_TgetP1 (q_pathF w68 w68) w62) w66 w67 w68 w69 w70 w62 w63 w64 w65)) w61 w55 w56 w57 w58 w60)))) (fun w55 w56 w57 w58 w59 w60 => (@Prod.rec.{1, 0, 0} Nat AV (fun _ => (AV → (AV → (Nat → ((Prod (List (Prod AV (Prod AV Nat))) Nat) → (St → (Option (Prod Unit St)))))))) (fun w61 _ w63 w64 w65 w66 w67 => (@Option.rec.{1, 0} AV (fun _ => (AV → (AV → (Nat → ((Prod (List (Prod AV (Prod AV Nat))) Nat) → (Nat → (St → (Option (Prod Unit St))))))))) (fun _ _ _ _ _ _ => none) (fun w68 w69 w70 w71 w72 w73 w74 => (@Bool.rec.{1} (fun _ => (AV → (Nat → ((Prod (List (Prod AV (Prod AV Nat))) Nat) → (Nat → (St → (Option (Prod Unit St)))))))) (fun _ _ _ _ _ => none) (fun w75 w76 w77 w78 w79 => (@St.rec.{1} (fun _ => (AV → (Nat → ((Prod (List (Prod AV (Prod AV Nat))) Nat) → (Nat → (Option (Prod Unit St))))))) (fun w80 w81 w82 w83 w84 w85 w86 w87 => (@Option.rec.{1, 0} AObj (fun _ => (AV → (Nat → ((Prod (List (Prod AV (Prod AV Nat))) Nat) → (Nat → ((T AObj) → (Nat → (Ks → (Ks → (Option (Prod Unit St))))))))))) (fun _ _ _ _ _ _ _ _ => none) (fun _ w89 w90 w91 w92 w93 w94 w95 w96 => ((fun (w97 : ((T AObj) → (Option (Prod Unit St)))) => (@T.rec.{1} AObj (fun _ => (((T AObj) → (Option (Prod Unit St))) → (Option (Prod Unit St)))) (fun w98 => (w98 (@T.nil AObj))) (fun w98 w99 w100 w101 w102 w103 w104 w105 w106 _ _ _ _ _ _ _ _ w115 => (w115 (@T.node AObj w98 w99 w100 w101 w102 w103 w104 w105 w106))) (q_TsetP (q_pathF w90 w90) w93 (some (AObj.map (q_putAt w89 w91.1 w92) w91.2))) w97)) (fun w97 => ((fun (w98 : (Ks → (Option (Prod Unit St)))) => (@Nat.rec.{1} (fun _ => ((Ks → (Option (Prod Unit St))) → (Option (Prod Unit St)))) (fun w99 => (w99 (0 : Nat))) (fun w99 _ w101 => (w101 (Nat.add w99 (1 : Nat)))) (Nat.lor w95 (Nat.shiftLeft (@OfNat.ofNat.{0} Nat (1 : Nat) (instOfNatNat (1 : Nat))) w90)) w98)) (fun w98 => ((fun (w99 : (Ks → (Option (Prod Unit St)))) => (@Nat.rec.{1} (fun _ => ((Ks → (Option (Prod Unit St))) → (Option (Prod Unit St)))) (fun w100 => (w100 (0 : Nat))) (fun w100 _ w102 => (w102 (Nat.add w100 (1 : Nat)))) (Nat.lor w96 (Nat.shiftLeft (@OfNat.ofNat.{0} Nat (1 : Nat) (instOfNatNat (1 : Nat))) w90)) w99)) (fun w99 => (some (Unit.unit, (St.mk w97 w94 w98 w99)))))))))) (q_TgetP1 (q_pathF w85 w85) w80) w84 w85 w86 w87 w80 w81 w82 w83)) w79 w75 w76 w77 w78)) (q_sameA w68 w69) w70 w71 w72 w73 w74)) (q_keyAt w66.1 w61) w63 w64 w65 w66 w61 w67)) w55 w56 w57 w58 w59 w60)) w49 w50 w51 w52 w53 w54)) (q_findA w44 w47 w45 w42.1 (0 : Nat)) w45 w46 w48 w42 w43)) w36 w37 w38 w39 w40 w41)) (@Option.rec.{1, 0} (Prod AObj St) (fun _ => (Option (Prod (Prod (List (Prod AV (Prod AV Nat))) Nat) St))) none (fun w36 => (@Prod.rec.{1, 0, 0} AObj St (fun _ => (Option (Prod (Prod (List (Prod AV (Prod AV Nat))) Nat) St))) (fun w37 w38 => (@AObj.rec.{1} (fun _ => ((St → (Option (Prod (Prod (List (Prod AV (Prod AV Nat))) Nat) St))) → (St → (Option (Prod (Prod (List (Prod AV (Prod AV Nat))) Nat) St))))) (fun w39 w40 => (w39 w40)) (fun _ _ w41 w42 => (w41 w42)) (fun w39 w40 _ w42 => (some ((w39, w40), w42))) (fun _ _ _ _ w43 w44 => (w43 w44)) (fun w39 w40 => (w39 w40)) (fun _ _ _ _ _ _ w45 w46 => (w45 w46)) w37 (fun _ => none) w38)) w36)) (@St.rec.{1} (fun _ => (Nat → (Option (Prod AObj St)))) (fun w36 w37 w38 w39 w40 => (@Option.rec.{1, 0} AObj (fun _ => (Nat → ((T AObj) → (Nat → (Ks → (Ks → (Option (Prod AObj St)))))))) (fun _ _ _ _ _ => none) (fun w41 w42 w43 w44 w45 w46 => ((fun (w47 : (Ks → (Option (Prod AObj St)))) => (@Nat.rec.{1} (fun _ => ((Ks → (Option (Prod AObj St))) → (Option (Prod AObj St)))) (fun w48 => (w48 (0 : Nat))) (fun w48 _ w50 => (w50 (Nat.add w48 (1 : Nat)))) (Nat.lor w45 (Nat.shiftLeft (@OfNat.ofNat.{0} Nat (1 : Nat) (instOfNatNat (1 : Nat))) w42)) w47)) (fun w47 => (some (w41, (St.mk w43 w44 w47 w46)))))) (q_TgetP1 (q_pathF w40 w40) w36) w40 w36 w37 w38 w39)) w35 w30)) w31 w32 w33 w34 w30)) (fun _ _ _ _ _ => none) (fun _ _ _ _ _ _ => none) (fun _ _ _ _ _ => none) (fun _ _ _ _ _ _ _ _ _ _ => none) (fun _ _ _ _ _ _ => none) (fun _ _ _ _ _ => none) (fun _ _ _ _ _ _ _ _ => none) (fun _ _ _ _ _ => none) (fun _ _ _ _ _ _ _ => none) (fun _ _ _ _ _ _ _ => none) (fun _ _ _ _ _ _ => none) PUnit.unit.{1} (fun _ _ _ _ => PUnit.unit.{1}) z y w26 w27 w28 w29)) (keyT t (50 : Nat) r v) t u v w r x)) (fun _ _ _ _ _ _ _ => none) (fun _ _ _ _ _ _ => none) (fun _ _ _ _ _ _ _ _ => none) (fun _ _ _ _ _ _ => none) (fun _ _ _ _ _ _ => none) (fun _ _ _ _ _ _ _ => none) (TyI.desc l) n o p q m)) g h i j k)) (@Option.rec.{1, 0} TyI (fun _ => (St → (Option (Prod TyI St)))) (fun _ => none) (fun g h => (some (g, h))) (Env.ty a b) f) a c d e))
theorem q_mapUpdateA_eq : q_mapUpdateA = mapUpdateA := by
  funext x0 x1 x2 x3 x4 x5
  delta q_mapUpdateA mapUpdateA bnd bnd.match_1 tyOf ofOpt ofOpt.match_1 fail ret lookupA.match_3 allOne.match_1 mapUpdateA.match_1 getMap getO getO.match_2 getO.match_1 T.get Ks.strict Ks.strictB digit.match_1 Ks.ins getMap.match_1 lookupA.match_1 strictN setO T.strictT T.getP.match_1 T.set strictN.match_1 keyF.match_1
  simp only [A_Option, B_Option, D_Option_0, D_Option_1, A_Prod, B_Prod, D_Prod_0, A_TypeDesc, B_TypeDesc, A_Bool, B_Bool, D_Bool_0, D_Bool_1, A_AV, B_AV, A_Nat, B_Nat, D_Nat_0, D_Nat_1, A_St, B_St, D_St_0, A_T, B_T, D_T_0, D_T_1, A_AObj, B_AObj, D_AObj_0, D_AObj_1, D_AObj_2, D_AObj_3, D_AObj_4, D_AObj_5, S28, S29, S30, q_TgetP1_eq, q_pathF_eq, q_findA_eq, q_TsetP_eq, q_Listappend1_eq, q_keyAt_eq, q_sameA_eq, q_putAt_eq]
  try kernel_rfl
noncomputable def q_nth2_nil : (Nat → (Option (Option AV))) := (fun _ => none)
noncomputable def q_nth2_cons : ((Option AV) → ((List (Option AV)) → ((Nat → (Option (Option AV))) → (Nat → (Option (Option AV)))))) := (fun a _ c d => (@Nat.rec.{1} (fun _ => ((Option AV) → ((Nat → (Option (Option AV))) → (Option (Option AV))))) (fun e _ => (some e)) (fun e _ _ h => (h e)) d a c))
noncomputable def q_nth2_r : ((List (Option AV)) → (Nat → (Option (Option AV)))) := (fun a => (@List.rec.{1, 0} (Option AV) (fun _ => (Nat → (Option (Option AV)))) (fun _ => none) (fun b _ d e => (@Nat.rec.{1} (fun _ => ((Option AV) → ((Nat → (Option (Option AV))) → (Option (Option AV))))) (fun f _ => (some f)) (fun f _ _ i => (i f)) e b d)) a))
noncomputable def q_nth2 : ((List (Option AV)) → (Nat → (Option (Option AV)))) := (fun a b => (q_nth2_r a b))
theorem q_nth2_req : ∀ t, q_nth2_r t = fun x1 => (@nth (Option AV)) t x1 := by
  intro t
  induction t with
  | nil  =>
    funext x1
    show q_nth2_nil x1 = _
    skip
    refine Eq.trans ?_ (Eq.symm (nth.eq_def ..))
    delta q_nth2_nil nth.match_1
    simp only [A_Nat, B_Nat, D_Nat_0, D_Nat_1, A_List, B_List, D_List_0, D_List_1]
    try kernel_rfl
  | cons f0 f1 ih0 =>
    funext x1
    show q_nth2_cons f0 f1 (q_nth2_r f1) x1 = _
    rw [ih0]
    refine Eq.trans ?_ (Eq.symm (nth.eq_def ..))
    delta q_nth2_cons nth.match_1
    simp only [A_Nat, B_Nat, D_Nat_0, D_Nat_1, A_List, B_List, D_List_0, D_List_1]
    try kernel_rfl
theorem q_nth2_eq : q_nth2 = (@nth (Option AV)) := by
  funext x0 x1
  show q_nth2_r x0 x1 = _
  rw [q_nth2_req]
noncomputable def q_takeAll_zero : ((List (Option AV)) → (Option (List AV))) := (fun _ => (some []))
noncomputable def q_takeAll_succ : (Nat → (((List (Option AV)) → (Option (List AV))) → ((List (Option AV)) → (Option (List AV))))) := (fun _ b c => (@List.rec.{1, 0} (Option AV) (fun _ => (((List (Option AV)) → (Option (List AV))) → (Option (List AV)))) (fun _ => none) (fun d e _ g => (@Option.rec.{1, 0} AV (fun _ => (((List (Option AV)) → (Option (List AV))) → ((List (Option AV)) → (Option (List AV))))) (fun _ _ => none) (fun h i j => (@Option.rec.{1, 0} (List AV) (fun _ => (AV → (Option (List AV)))) (fun _ => none) (fun k l => (some (l :: k))) (i j) h)) d g e)) c b))
noncomputable def q_takeAll_r : (Nat → ((List (Option AV)) → (Option (List AV)))) := (fun a => (@Nat.rec.{1} (fun _ => ((List (Option AV)) → (Option (List AV)))) (fun _ => (some [])) (fun _ c d => (@List.rec.{1, 0} (Option AV) (fun _ => (((List (Option AV)) → (Option (List AV))) → (Option (List AV)))) (fun _ => none) (fun e f _ h => (@Option.rec.{1, 0} AV (fun _ => (((List (Option AV)) → (Option (List AV))) → ((List (Option AV)) → (Option (List AV))))) (fun _ _ => none) (fun i j k => (@Option.rec.{1, 0} (List AV) (fun _ => (AV → (Option (List AV)))) (fun _ => none) (fun l m => (some (m :: l))) (j k) i)) e h f)) d c)) a))
noncomputable def q_takeAll : (Nat → ((List (Option AV)) → (Option (List AV)))) := (fun a b => (q_takeAll_r a b))
theorem q_takeAll_req : ∀ t, q_takeAll_r t = fun x1 => takeAll t x1 := by
  intro t
  induction t with
  | zero  =>
    funext x1
    show q_takeAll_zero x1 = _
    skip
    refine Eq.trans ?_ (Eq.symm (takeAll.eq_def ..))
    delta q_takeAll_zero takeAll.match_2 takeAll.match_1
    simp only [A_List, B_List, D_List_0, D_List_1, A_Option, B_Option, D_Option_0, D_Option_1, A_Nat, B_Nat, D_Nat_0, D_Nat_1, S21, S31]
    try kernel_rfl
  | succ f0 ih0 =>
    funext x1
    show q_takeAll_succ f0 (q_takeAll_r f0) x1 = _
    rw [ih0]
    refine Eq.trans ?_ (Eq.symm (takeAll.eq_def ..))
    delta q_takeAll_succ takeAll.match_2 takeAll.match_1
    simp only [A_List, B_List, D_List_0, D_List_1, A_Option, B_Option, D_Option_0, D_Option_1, A_Nat, B_Nat, D_Nat_0, D_Nat_1, S21, S31]
    try kernel_rfl
theorem q_takeAll_eq : q_takeAll = takeAll := by
  funext x0 x1
  show q_takeAll_r x0 x1 = _
  rw [q_takeAll_req]
noncomputable def q_Listdrop_zero : ((List (Option AV)) → (List (Option AV))) := (fun a => a)
noncomputable def q_Listdrop_succ : (Nat → (((List (Option AV)) → (List (Option AV))) → ((List (Option AV)) → (List (Option AV))))) := (fun _ b c => (@List.rec.{1, 0} (Option AV) (fun _ => (((List (Option AV)) → (List (Option AV))) → (List (Option AV)))) (fun _ => []) (fun _ e _ g => (g e)) c b))
noncomputable def q_Listdrop_r : (Nat → ((List (Option AV)) → (List (Option AV)))) := (fun a => (@Nat.rec.{1} (fun _ => ((List (Option AV)) → (List (Option AV)))) (fun b => b) (fun _ c d => (@List.rec.{1, 0} (Option AV) (fun _ => (((List (Option AV)) → (List (Option AV))) → (List (Option AV)))) (fun _ => []) (fun _ f _ h => (h f)) d c)) a))
noncomputable def q_Listdrop : (Nat → ((List (Option AV)) → (List (Option AV)))) := (fun a b => (q_Listdrop_r a b))
theorem q_Listdrop_req : ∀ t, q_Listdrop_r t = fun x1 => (@List.drop.{0} (Option AV)) t x1 := by
  intro t
  induction t with
  | zero  =>
    funext x1
    show q_Listdrop_zero x1 = _
    skip
    refine Eq.trans ?_ (Eq.symm (List.drop.eq_def ..))
    delta q_Listdrop_zero List.take.match_1
    simp only [A_List, B_List, D_List_0, D_List_1, A_Nat, B_Nat, D_Nat_0, D_Nat_1]
    try kernel_rfl
  | succ f0 ih0 =>
    funext x1
    show q_Listdrop_succ f0 (q_Listdrop_r f0) x1 = _
    rw [ih0]
    refine Eq.trans ?_ (Eq.symm (List.drop.eq_def ..))
    delta q_Listdrop_succ List.take.match_1
    simp only [A_List, B_List, D_List_0, D_List_1, A_Nat, B_Nat, D_Nat_0, D_Nat_1]
    try kernel_rfl
theorem q_Listdrop_eq : q_Listdrop = (@List.drop.{0} (Option AV)) := by
  funext x0 x1
  show q_Listdrop_r x0 x1 = _
  rw [q_Listdrop_req]
noncomputable def q_loadA : (Env → (Nat → (AV → (St → (Option (Prod AV St)))))) := (fun a b c d => (@AV.rec.{1} (fun _ => (Env → (Nat → (St → (Option (Prod AV St)))))) (fun _ => PUnit.{1}) (fun _ _ _ _ => none) (fun _ _ _ _ _ => none) (fun _ _ _ _ => none) (fun e f g h i => (@Option.rec.{1, 0} (Prod TyI St) (fun _ => (Nat → (Nat → (Option (Prod AV St))))) (fun _ _ => none) (fun j k l => (@Prod.rec.{1, 0, 0} TyI St (fun _ => (Nat → (Nat → (Option (Prod AV St))))) (fun m n o p => (@Option.rec.{1, 0} (Prod (Prod Nat (List (Option AV))) St) (fun _ => (Nat → (TyI → (Option (Prod AV St))))) (fun _ _ => none) (fun q r s => (@Prod.rec.{1, 0, 0} (Prod Nat (List (Option AV))) St (fun _ => (Nat → (TyI → (Option (Prod AV St))))) (fun t u v w => (@Bool.rec.{1} (fun _ => (Nat → (TyI → ((Prod Nat (List (Option AV))) → (St → (Option (Prod AV St))))))) (fun x _ z w26 => (@Option.rec.{1, 0} (Option AV) (fun _ => (St → (Option (Prod AV St)))) (fun _ => none) (fun w27 w28 => (@Option.rec.{1, 0} AV (fun _ => (St → (Option (Prod AV St)))) (fun _ => none) (fun w29 w30 => (some (w29, w30))) w27 w28)) (q_nth2 z.2 x) w26)) (fun x y z w26 => (@Option.rec.{1, 0} (List AV) (fun _ => (St → (Option (Prod AV St)))) (fun _ => none) (fun w27 w28 => (some ((AV.agg w27), w28))) (q_takeAll (TyI.size y) (q_Listdrop x z.2)) w26)) (TyI.agg w) v w t u)) q r s)) (@Option.rec.{1, 0} (Prod AObj St) (fun _ => (Option (Prod (Prod Nat (List (Option AV))) St))) none (fun q => (@Prod.rec.{1, 0, 0} AObj St (fun _ => (Option (Prod (Prod Nat (List (Option AV))) St))) (fun r s => (@AObj.rec.{1} (fun _ => ((St → (Option (Prod (Prod Nat (List (Option AV))) St))) → (St → (Option (Prod (Prod Nat (List (Option AV))) St))))) (fun t u => (t u)) (fun t u _ w => (some ((t, u), w))) (fun _ _ v w => (v w)) (fun _ _ _ _ x y => (x y)) (fun t u => (t u)) (fun _ _ _ _ _ _ z w26 => (z w26)) r (fun _ => none) s)) q)) (@St.rec.{1} (fun _ => (Nat → (Option (Prod AObj St)))) (fun q r s t u => (@Option.rec.{1, 0} AObj (fun _ => (Nat → ((T AObj) → (Nat → (Ks → (Ks → (Option (Prod AObj St)))))))) (fun _ _ _ _ _ => none) (fun v w x y z w26 => ((fun (w27 : (Ks → (Option (Prod AObj St)))) => (@Nat.rec.{1} (fun _ => ((Ks → (Option (Prod AObj St))) → (Option (Prod AObj St)))) (fun w28 => (w28 (0 : Nat))) (fun w28 _ w30 => (w30 (Nat.add w28 (1 : Nat)))) (Nat.lor z (Nat.shiftLeft (@OfNat.ofNat.{0} Nat (1 : Nat) (instOfNatNat (1 : Nat))) w)) w27)) (fun w27 => (some (v, (St.mk x y w27 w26)))))) (q_TgetP1 (q_pathF u u) q) u q r s t)) n o)) p m)) j k l)) (@Option.rec.{1, 0} TyI (fun _ => (St → (Option (Prod TyI St)))) (fun _ => none) (fun j k => (some (j, k))) (Env.ty g h) i) e f)) (fun _ _ _ => none) (fun _ _ _ _ _ _ _ => none) (fun _ _ _ _ _ _ _ => none) (fun _ _ _ => none) (fun _ _ _ _ => none) (fun _ _ _ => none) (fun _ _ _ _ => none) (fun _ _ _ => none) (fun _ _ _ _ _ _ _ _ => none) (fun _ _ _ _ => none) (fun _ _ _ => none) (fun _ _ _ _ _ _ => none) (fun _ _ _ => none) (fun _ _ _ _ _ => none) (fun _ _ _ _ _ => none) (fun _ _ _ _ => none) PUnit.unit.{1} (fun _ _ _ _ => PUnit.unit.{1}) c a b d))
theorem q_loadA_eq : q_loadA = loadA := by
  funext x0 x1 x2 x3
  delta q_loadA loadA loadA.match_3 fail bnd bnd.match_1 tyOf ofOpt ofOpt.match_1 ret getRow getO getO.match_2 getO.match_1 T.get Ks.strict Ks.strictB digit.match_1 Ks.ins getRow.match_1 allOne.match_1 loadA.match_2 loadA.match_1
  simp only [A_AV, B_AV, A_Option, B_Option, D_Option_0, D_Option_1, A_Prod, B_Prod, D_Prod_0, A_Bool, B_Bool, D_Bool_0, D_Bool_1, A_AObj, B_AObj, D_AObj_0, D_AObj_1, D_AObj_2, D_AObj_3, D_AObj_4, D_AObj_5, A_St, B_St, D_St_0, A_Nat, B_Nat, D_Nat_0, D_Nat_1, S32, S33, S31, q_TgetP1_eq, q_pathF_eq, q_nth2_eq, q_takeAll_eq, q_Listdrop_eq]
  try kernel_rfl
noncomputable def q_over_nil : (Nat → ((List AV) → (Option (List (Option AV))))) := (fun a b => (@Nat.rec.{1} (fun _ => ((List AV) → (PUnit.{1} → (Option (List (Option AV)))))) (fun c d => (@List.rec.{1, 0} AV (fun _ => (PUnit.{1} → (Option (List (Option AV))))) (fun _ => ((fun (f : (List (Option AV))) => (some f)) [])) (fun _ _ _ _ => none) c d)) (fun _ _ _ _ => none) a b PUnit.unit.{1}))
noncomputable def q_over_cons : ((Option AV) → ((List (Option AV)) → ((Nat → ((List AV) → (Option (List (Option AV))))) → (Nat → ((List AV) → (Option (List (Option AV)))))))) := (fun a b c d e => (@Nat.rec.{1} (fun _ => ((List AV) → ((Option AV) → ((List (Option AV)) → ((Nat → ((List AV) → (Option (List (Option AV))))) → (Option (List (Option AV)))))))) (fun f g h i => (@List.rec.{1, 0} AV (fun _ => ((Option AV) → ((List (Option AV)) → ((Nat → ((List AV) → (Option (List (Option AV))))) → (Option (List (Option AV))))))) (fun j k _ => ((fun (m : (List (Option AV))) => (some m)) (j :: k))) (fun j k _ _ _ o => (@Option.rec.{1, 0} (List (Option AV)) (fun _ => (AV → (Option (List (Option AV))))) (fun _ => none) (fun p q => (some ((some q) :: p))) (o (0 : Nat) k) j)) f g h i)) (fun f _ h i _ k => (@Option.rec.{1, 0} (List (Option AV)) (fun _ => ((Option AV) → (Option (List (Option AV))))) (fun _ => none) (fun l m => (some (m :: l))) (k f h) i)) d e a b c))
noncomputable def q_over_r : ((List (Option AV)) → (Nat → ((List AV) → (Option (List (Option AV)))))) := (fun a => (@List.rec.{1, 0} (Option AV) (fun _ => (Nat → ((List AV) → (Option (List (Option AV)))))) (fun b c => (@Nat.rec.{1} (fun _ => ((List AV) → (PUnit.{1} → (Option (List (Option AV)))))) (fun d e => (@List.rec.{1, 0} AV (fun _ => (PUnit.{1} → (Option (List (Option AV))))) (fun _ => ((fun (g : (List (Option AV))) => (some g)) [])) (fun _ _ _ _ => none) d e)) (fun _ _ _ _ => none) b c PUnit.unit.{1})) (fun b c d e f => (@Nat.rec.{1} (fun _ => ((List AV) → ((Option AV) → ((List (Option AV)) → ((Nat → ((List AV) → (Option (List (Option AV))))) → (Option (List (Option AV)))))))) (fun g h i j => (@List.rec.{1, 0} AV (fun _ => ((Option AV) → ((List (Option AV)) → ((Nat → ((List AV) → (Option (List (Option AV))))) → (Option (List (Option AV))))))) (fun k l _ => ((fun (n : (List (Option AV))) => (some n)) (k :: l))) (fun k l _ _ _ p => (@Option.rec.{1, 0} (List (Option AV)) (fun _ => (AV → (Option (List (Option AV))))) (fun _ => none) (fun q r => (some ((some r) :: q))) (p (0 : Nat) l) k)) g h i j)) (fun g _ i j _ l => (@Option.rec.{1, 0} (List (Option AV)) (fun _ => ((Option AV) → (Option (List (Option AV))))) (fun _ => none) (fun m n => (some (n :: m))) (l g i) j)) e f b c d)) a))
noncomputable def q_over : ((List (Option AV)) → (Nat → ((List AV) → (Option (List (Option AV)))))) := (fun a b c => (q_over_r a b c))
theorem q_over_req : ∀ t, q_over_r t = fun x1 x2 => over t x1 x2 := by
  intro t
  induction t with
  | nil  =>
    funext x1 x2
    show q_over_nil x1 x2 = _
    skip
    refine Eq.trans ?_ (Eq.symm (over.eq_def ..))
    delta q_over_nil over.match_2 over.match_1
    simp only [A_Nat, B_Nat, D_Nat_0, D_Nat_1, A_List, B_List, D_List_0, D_List_1, A_Option, B_Option, D_Option_0, D_Option_1]
    try kernel_rfl
  | cons f0 f1 ih0 =>
    funext x1 x2
    show q_over_cons f0 f1 (q_over_r f1) x1 x2 = _
    rw [ih0]
    refine Eq.trans ?_ (Eq.symm (over.eq_def ..))
    delta q_over_cons over.match_2 over.match_1
    simp only [A_Nat, B_Nat, D_Nat_0, D_Nat_1, A_List, B_List, D_List_0, D_List_1, A_Option, B_Option, D_Option_0, D_Option_1]
    try kernel_rfl
theorem q_over_eq : q_over = over := by
  funext x0 x1 x2
  show q_over_r x0 x1 x2 = _
  rw [q_over_req]
noncomputable def q_storeCellsA : (Nat → (Nat → ((List AV) → (St → (Option (Prod Unit St)))))) := (fun a b c d => (@Bool.rec.{1} (fun _ => (Nat → (Nat → ((List AV) → (St → (Option (Prod Unit St))))))) (fun _ _ _ _ => none) (fun e f g h => (@Option.rec.{1, 0} (Prod (Prod Nat (List (Option AV))) St) (fun _ => (Nat → (Nat → ((List AV) → (Option (Prod Unit St)))))) (fun _ _ _ => none) (fun i j k l => (@Prod.rec.{1, 0, 0} (Prod Nat (List (Option AV))) St (fun _ => (Nat → (Nat → ((List AV) → (Option (Prod Unit St)))))) (fun m n o p q => (@Option.rec.{1, 0} (List (Option AV)) (fun _ => (Nat → ((Prod Nat (List (Option AV))) → (St → (Option (Prod Unit St)))))) (fun _ _ _ => none) (fun r s t u => (@St.rec.{1} (fun _ => (Nat → ((Prod Nat (List (Option AV))) → ((List (Option AV)) → (Option (Prod Unit St)))))) (fun v w x y z w26 w27 => (@Option.rec.{1, 0} AObj (fun _ => (Nat → ((Prod Nat (List (Option AV))) → ((List (Option AV)) → ((T AObj) → (Nat → (Ks → (Ks → (Option (Prod Unit St)))))))))) (fun _ _ _ _ _ _ _ => none) (fun _ w29 w30 w31 w32 w33 w34 w35 => ((fun (w36 : ((T AObj) → (Option (Prod Unit St)))) => (@T.rec.{1} AObj (fun _ => (((T AObj) → (Option (Prod Unit St))) → (Option (Prod Unit St)))) (fun w37 => (w37 (@T.nil AObj))) (fun w37 w38 w39 w40 w41 w42 w43 w44 w45 _ _ _ _ _ _ _ _ w54 => (w54 (@T.node AObj w37 w38 w39 w40 w41 w42 w43 w44 w45))) (q_TsetP (q_pathF w29 w29) w32 (some (AObj.row w30.1 w31))) w36)) (fun w36 => ((fun (w37 : (Ks → (Option (Prod Unit St)))) => (@Nat.rec.{1} (fun _ => ((Ks → (Option (Prod Unit St))) → (Option (Prod Unit St)))) (fun w38 => (w38 (0 : Nat))) (fun w38 _ w40 => (w40 (Nat.add w38 (1 : Nat)))) (Nat.lor w34 (Nat.shiftLeft (@OfNat.ofNat.{0} Nat (1 : Nat) (instOfNatNat (1 : Nat))) w29)) w37)) (fun w37 => ((fun (w38 : (Ks → (Option (Prod Unit St)))) => (@Nat.rec.{1} (fun _ => ((Ks → (Option (Prod Unit St))) → (Option (Prod Unit St)))) (fun w39 => (w39 (0 : Nat))) (fun w39 _ w41 => (w41 (Nat.add w39 (1 : Nat)))) (Nat.lor w35 (Nat.shiftLeft (@OfNat.ofNat.{0} Nat (1 : Nat) (instOfNatNat (1 : Nat))) w29)) w38)) (fun w38 => (some (Unit.unit, (St.mk w36 w33 w37 w38)))))))))) (q_TgetP1 (q_pathF z z) v) z w26 w27 v w x y)) u s t r)) (q_over m.2 p q) o m n)) i j k l)) (@Option.rec.{1, 0} (Prod AObj St) (fun _ => (Option (Prod (Prod Nat (List (Option AV))) St))) none (fun i => (@Prod.rec.{1, 0, 0} AObj St (fun _ => (Option (Prod (Prod Nat (List (Option AV))) St))) (fun j k => (@AObj.rec.{1} (fun _ => ((St → (Option (Prod (Prod Nat (List (Option AV))) St))) → (St → (Option (Prod (Prod Nat (List (Option AV))) St))))) (fun l m => (l m)) (fun l m _ o => (some ((l, m), o))) (fun _ _ n o => (n o)) (fun _ _ _ _ p q => (p q)) (fun l m => (l m)) (fun _ _ _ _ _ _ r s => (r s)) j (fun _ => none) k)) i)) (@St.rec.{1} (fun _ => (Nat → (Option (Prod AObj St)))) (fun i j k l m => (@Option.rec.{1, 0} AObj (fun _ => (Nat → ((T AObj) → (Nat → (Ks → (Ks → (Option (Prod AObj St)))))))) (fun _ _ _ _ _ => none) (fun n o p q r s => ((fun (t : (Ks → (Option (Prod AObj St)))) => (@Nat.rec.{1} (fun _ => ((Ks → (Option (Prod AObj St))) → (Option (Prod AObj St)))) (fun u => (u (0 : Nat))) (fun u _ w => (w (Nat.add u (1 : Nat)))) (Nat.lor r (Nat.shiftLeft (@OfNat.ofNat.{0} Nat (1 : Nat) (instOfNatNat (1 : Nat))) o)) t)) (fun t => (some (n, (St.mk p q t s)))))) (q_TgetP1 (q_pathF m m) i) m i j k l)) h e)) e f g)) (q_allOne c) a b c d))
theorem q_storeCellsA_eq : q_storeCellsA = storeCellsA := by
  funext x0 x1 x2 x3
  delta q_storeCellsA storeCellsA allOne.match_1 fail bnd bnd.match_1 getRow getO getO.match_2 getO.match_1 T.get Ks.strict Ks.strictB digit.match_1 Ks.ins getRow.match_1 ret storeCellsA.match_1 setO T.strictT T.getP.match_1 T.set
  simp only [A_Bool, B_Bool, D_Bool_0, D_Bool_1, A_Option, B_Option, D_Option_0, D_Option_1, A_Prod, B_Prod, D_Prod_0, A_St, B_St, D_St_0, A_T, B_T, D_T_0, D_T_1, A_Nat, B_Nat, D_Nat_0, D_Nat_1, A_AObj, B_AObj, D_AObj_0, D_AObj_1, D_AObj_2, D_AObj_3, D_AObj_4, D_AObj_5, S33, q_allOne_eq, q_TgetP1_eq, q_pathF_eq, q_over_eq, q_TsetP_eq]
  try kernel_rfl
noncomputable def q_storeA : (Env → (Nat → (AV → (AV → (St → (Option (Prod Unit St))))))) := (fun a b c d e => (@AV.rec.{1} (fun _ => (Env → (Nat → (AV → (St → (Option (Prod Unit St))))))) (fun _ => PUnit.{1}) (fun _ _ _ _ _ => none) (fun _ _ _ _ _ _ => none) (fun _ _ _ _ _ => none) (fun f g h i j k => (@Option.rec.{1, 0} (Prod TyI St) (fun _ => (AV → (Nat → (Nat → (Option (Prod Unit St)))))) (fun _ _ _ => none) (fun l m n o => (@Prod.rec.{1, 0, 0} TyI St (fun _ => (AV → (Nat → (Nat → (Option (Prod Unit St)))))) (fun p q r s t => (@Bool.rec.{1} (fun _ => (AV → (Nat → (Nat → (St → (Option (Prod Unit St))))))) (fun _ _ _ _ => none) (fun u v w x => (q_storeCellsA v w (q_cellsOf u) x)) (Nat.beq (q_Listlength (q_cellsOf r)) (TyI.size p)) r s t q)) l m n o)) (@Option.rec.{1, 0} TyI (fun _ => (St → (Option (Prod TyI St)))) (fun _ => none) (fun l m => (some (l, m))) (Env.ty h i) k) j f g)) (fun _ _ _ _ => none) (fun _ _ _ _ _ _ _ _ => none) (fun _ _ _ _ _ _ _ _ => none) (fun _ _ _ _ => none) (fun _ _ _ _ _ => none) (fun _ _ _ _ => none) (fun _ _ _ _ _ => none) (fun _ _ _ _ => none) (fun _ _ _ _ _ _ _ _ _ => none) (fun _ _ _ _ _ => none) (fun _ _ _ _ => none) (fun _ _ _ _ _ _ _ => none) (fun _ _ _ _ => none) (fun _ _ _ _ _ _ => none) (fun _ _ _ _ _ _ => none) (fun _ _ _ _ _ => none) PUnit.unit.{1} (fun _ _ _ _ => PUnit.unit.{1}) c a b d e))
theorem q_storeA_eq : q_storeA = storeA := by
  funext x0 x1 x2 x3 x4
  delta q_storeA storeA loadA.match_3 fail bnd bnd.match_1 tyOf ofOpt ofOpt.match_1 ret allOne.match_1
  simp only [A_AV, B_AV, A_Option, B_Option, D_Option_0, D_Option_1, A_Prod, B_Prod, D_Prod_0, A_Bool, B_Bool, D_Bool_0, D_Bool_1, S32, q_Listlength_eq, q_cellsOf_eq, q_storeCellsA_eq]
  try kernel_rfl
noncomputable def q_maxOf : (IntKind → Nat) := (fun a => (@IntKind.rec.{1} (fun _ => Nat) (@OfNat.ofNat.{0} Nat (127 : Nat) (instOfNatNat (127 : Nat))) (@OfNat.ofNat.{0} Nat (32767 : Nat) (instOfNatNat (32767 : Nat))) (@OfNat.ofNat.{0} Nat (2147483647 : Nat) (instOfNatNat (2147483647 : Nat))) (@OfNat.ofNat.{0} Nat (9223372036854775807 : Nat) (instOfNatNat (9223372036854775807 : Nat))) (@OfNat.ofNat.{0} Nat (255 : Nat) (instOfNatNat (255 : Nat))) (@OfNat.ofNat.{0} Nat (65535 : Nat) (instOfNatNat (65535 : Nat))) (@OfNat.ofNat.{0} Nat (4294967295 : Nat) (instOfNatNat (4294967295 : Nat))) (@OfNat.ofNat.{0} Nat (18446744073709551615 : Nat) (instOfNatNat (18446744073709551615 : Nat))) a))
theorem q_maxOf_eq : q_maxOf = maxOf := by
  funext x0
  delta q_maxOf maxOf maxOf.match_1
  simp only [A_IntKind, B_IntKind]
  try kernel_rfl
noncomputable def q_fitsN : (IntKind → (Int → Bool)) := (fun a b => (@Int.rec.{1} (fun _ => (IntKind → Bool)) (fun c d => (Nat.ble c (q_maxOf d))) (fun _ _ => Bool.false) b a))
theorem q_fitsN_eq : q_fitsN = fitsN := by
  funext x0 x1
  delta q_fitsN fitsN strictI.match_1
  simp only [A_Int, B_Int, D_Int_0, D_Int_1, q_maxOf_eq]
  try kernel_rfl
noncomputable def q_bitsA : (BinOp → (IntKind → (Int → (Int → (Option Int))))) := (fun a _ c d => (@BinOp.rec.{1} (fun _ => (Int → (Int → (Option Int)))) (fun _ _ => none) (fun _ _ => none) (fun _ _ => none) (fun _ _ => none) (fun _ _ => none) (fun e f => (@Int.rec.{1} (fun _ => (Int → (Option Int))) (fun g h => (@Int.rec.{1} (fun _ => (Nat → (Option Int))) (fun i j => (some (Int.ofNat (Nat.land j i)))) (fun _ _ => none) h g)) (fun _ _ => none) e f)) (fun e f => (@Int.rec.{1} (fun _ => (Int → (Option Int))) (fun g h => (@Int.rec.{1} (fun _ => (Nat → (Option Int))) (fun i j => (some (Int.ofNat (Nat.lor j i)))) (fun _ _ => none) h g)) (fun _ _ => none) e f)) (fun e f => (@Int.rec.{1} (fun _ => (Int → (Option Int))) (fun g h => (@Int.rec.{1} (fun _ => (Nat → (Option Int))) (fun i j => (some (Int.ofNat (Nat.xor j i)))) (fun _ _ => none) h g)) (fun _ _ => none) e f)) (fun _ _ => none) (fun _ _ => none) (fun e f => (@Int.rec.{1} (fun _ => (Int → (Option Int))) (fun g h => (@Int.rec.{1} (fun _ => (Nat → (Option Int))) (fun i j => (some (Int.ofNat (Nat.xor j (Nat.land j i))))) (fun _ _ => none) h g)) (fun _ _ => none) e f)) (fun _ _ => none) (fun _ _ => none) (fun _ _ => none) (fun _ _ => none) (fun _ _ => none) (fun _ _ => none) a c d))
theorem q_bitsA_eq : q_bitsA = bitsA := by
  funext x0 x1 x2 x3
  delta q_bitsA bitsA bitsA.match_1
  simp only [A_BinOp, B_BinOp, A_Int, B_Int, D_Int_0, D_Int_1, S34, S18]
  try kernel_rfl
noncomputable def q_wrapI : (IntKind → (Int → Int)) := (fun a b => (@Int.rec.{1} (fun _ => (IntKind → (Int → Int))) (fun c d e => (@Bool.rec.{1} (fun _ => (IntKind → (Int → (Nat → Int)))) (fun f g _ => (IntKind.wrap f g)) (fun _ _ h => (Int.ofNat h)) (Nat.ble c (q_maxOf d)) d e c)) (fun _ d e => (IntKind.wrap d e)) b a b))
theorem q_wrapI_eq : q_wrapI = wrapI := by
  funext x0 x1
  delta q_wrapI wrapI strictI.match_1 allOne.match_1
  simp only [A_Int, B_Int, D_Int_0, D_Int_1, A_Bool, B_Bool, D_Bool_0, D_Bool_1, q_maxOf_eq]
  try kernel_rfl
noncomputable def q_IntsubNatNat : (Nat → (Nat → Int)) := (fun a b => (@Nat.rec.{1} (fun _ => (Nat → (Nat → Int))) (fun c d => (Int.ofNat (Nat.sub c d))) (fun c _ _ _ => (Int.negSucc c)) (Nat.sub b a) a b))
theorem q_IntsubNatNat_eq : q_IntsubNatNat = Int.subNatNat := by
  funext x0 x1
  delta q_IntsubNatNat Int.subNatNat Int.negOfNat.match_1
  simp only [A_Nat, B_Nat, D_Nat_0, D_Nat_1]
  try kernel_rfl
noncomputable def q_Intadd : (Int → (Int → Int)) := (fun a b => (@Int.rec.{1} (fun _ => (Int → Int)) (fun c d => (@Int.rec.{1} (fun _ => (Nat → Int)) (fun e f => (Int.ofNat (Nat.add f e))) (fun e f => (q_IntsubNatNat f (Nat.succ e))) d c)) (fun c d => (@Int.rec.{1} (fun _ => (Nat → Int)) (fun e f => (q_IntsubNatNat e (Nat.succ f))) (fun e f => (Int.negSucc (Nat.succ (Nat.add f e)))) d c)) a b))
theorem q_Intadd_eq : q_Intadd = Int.add := by
  funext x0 x1
  delta q_Intadd Int.add Int.add.match_1
  simp only [A_Int, B_Int, D_Int_0, D_Int_1, q_IntsubNatNat_eq]
  try kernel_rfl
noncomputable def q_Listlength1_nil : Nat := (@OfNat.ofNat.{0} Nat (0 : Nat) (instOfNatNat (0 : Nat)))
noncomputable def q_Listlength1_cons : (UInt8 → ((List UInt8) → (Nat → Nat))) := (fun _ _ c => (Nat.add c (1 : Nat)))
noncomputable def q_Listlength1_r : ((List UInt8) → Nat) := (fun a => (@List.rec.{1, 0} UInt8 (fun _ => Nat) (@OfNat.ofNat.{0} Nat (0 : Nat) (instOfNatNat (0 : Nat))) (fun _ _ d => (Nat.add d (1 : Nat))) a))
noncomputable def q_Listlength1 : ((List UInt8) → Nat) := (fun a => (q_Listlength1_r a))
theorem q_Listlength1_req : ∀ t, q_Listlength1_r t = (@List.length.{0} UInt8) t := by
  intro t
  induction t with
  | nil  =>
    skip
    show q_Listlength1_nil  = _
    skip
    refine Eq.trans ?_ (Eq.symm (List.length.eq_def ..))
    delta q_Listlength1_nil instDecidableEqList.match_1
    simp only [A_List, B_List, D_List_0, D_List_1]
    try kernel_rfl
  | cons f0 f1 ih0 =>
    skip
    show q_Listlength1_cons f0 f1 (q_Listlength1_r f1) = _
    rw [ih0]
    refine Eq.trans ?_ (Eq.symm (List.length.eq_def ..))
    delta q_Listlength1_cons instDecidableEqList.match_1
    simp only [A_List, B_List, D_List_0, D_List_1]
    try kernel_rfl
theorem q_Listlength1_eq : q_Listlength1 = (@List.length.{0} UInt8) := by
  funext x0
  show q_Listlength1_r x0  = _
  rw [q_Listlength1_req]
noncomputable def q_Listappend2_nil : ((List UInt8) → (List UInt8)) := (fun a => a)
noncomputable def q_Listappend2_cons : (UInt8 → ((List UInt8) → (((List UInt8) → (List UInt8)) → ((List UInt8) → (List UInt8))))) := (fun a _ c d => (a :: (c d)))
noncomputable def q_Listappend2_r : ((List UInt8) → ((List UInt8) → (List UInt8))) := (fun a => (@List.rec.{1, 0} UInt8 (fun _ => ((List UInt8) → (List UInt8))) (fun b => b) (fun b _ d e => (b :: (d e))) a))
noncomputable def q_Listappend2 : ((List UInt8) → ((List UInt8) → (List UInt8))) := (fun a b => (q_Listappend2_r a b))
theorem q_Listappend2_req : ∀ t, q_Listappend2_r t = fun x1 => (@List.append.{0} UInt8) t x1 := by
  intro t
  induction t with
  | nil  =>
    funext x1
    show q_Listappend2_nil x1 = _
    skip
    refine Eq.trans ?_ (Eq.symm (List.append.eq_def ..))
    delta q_Listappend2_nil List.append.match_1
    simp only [A_List, B_List, D_List_0, D_List_1]
    try kernel_rfl
  | cons f0 f1 ih0 =>
    funext x1
    show q_Listappend2_cons f0 f1 (q_Listappend2_r f1) x1 = _
    rw [ih0]
    refine Eq.trans ?_ (Eq.symm (List.append.eq_def ..))
    delta q_Listappend2_cons List.append.match_1
    simp only [A_List, B_List, D_List_0, D_List_1]
    try kernel_rfl
theorem q_Listappend2_eq : q_Listappend2 = (@List.append.{0} UInt8) := by
  funext x0 x1
  show q_Listappend2_r x0 x1 = _
  rw [q_Listappend2_req]
noncomputable def q_IntnegOfNat : (Nat → Int) := (fun a => (@Nat.rec.{1} (fun _ => Int) (@OfNat.ofNat.{0} Int (0 : Nat) (@instOfNat (0 : Nat))) (fun b _ => (Int.negSucc b)) a))
theorem q_IntnegOfNat_eq : q_IntnegOfNat = Int.negOfNat := by
  funext x0
  delta q_IntnegOfNat Int.negOfNat Int.negOfNat.match_1
  simp only [A_Nat, B_Nat, D_Nat_0, D_Nat_1]
  try kernel_rfl
noncomputable def q_Intneg : (Int → Int) := (fun a => (@Int.rec.{1} (fun _ => Int) (fun b => (q_IntnegOfNat b)) (fun b => (@Nat.cast.{0} Int instNatCastInt (Nat.succ b))) a))
theorem q_Intneg_eq : q_Intneg = Int.neg := by
  funext x0
  delta q_Intneg Int.neg Int.neg.match_1
  simp only [A_Int, B_Int, D_Int_0, D_Int_1, q_IntnegOfNat_eq]
  try kernel_rfl
noncomputable def q_Intsub : (Int → (Int → Int)) := (fun a b => (q_Intadd a (q_Intneg b)))
theorem q_Intsub_eq : q_Intsub = Int.sub := by
  funext x0 x1
  delta q_Intsub Int.sub
  simp only [q_Intadd_eq, q_Intneg_eq]
  try kernel_rfl
noncomputable def q_Intmul : (Int → (Int → Int)) := (fun a b => (@Int.rec.{1} (fun _ => (Int → Int)) (fun c d => (@Int.rec.{1} (fun _ => (Nat → Int)) (fun e f => (Int.ofNat (Nat.mul f e))) (fun e f => (q_IntnegOfNat (Nat.mul f (Nat.succ e)))) d c)) (fun c d => (@Int.rec.{1} (fun _ => (Nat → Int)) (fun e f => (q_IntnegOfNat (Nat.mul (Nat.succ f) e))) (fun e f => (Int.ofNat (Nat.mul (Nat.succ f) (Nat.succ e)))) d c)) a b))
theorem q_Intmul_eq : q_Intmul = Int.mul := by
  funext x0 x1
  delta q_Intmul Int.mul Int.add.match_1
  simp only [A_Int, B_Int, D_Int_0, D_Int_1, q_IntnegOfNat_eq]
  try kernel_rfl
noncomputable def q_shlA : (IntKind → (Int → (Int → Int))) := (fun a b c => (IntKind.wrap a (q_Intmul b (@HPow.hPow.{0, 0, 0} Int Nat Int (@instHPow.{0, 0} Int Nat (@instPowNat.{0} Int Int.instNatPow)) (Int.ofNat (2 : Nat)) (@Min.min.{0} Nat instMinNat (Int.toNat c) (IntKind.bits a))))))
theorem q_shlA_eq : q_shlA = shlA := by
  funext x0 x1 x2
  delta q_shlA shlA
  simp only [q_Intmul_eq]
  try kernel_rfl
noncomputable def q_shrA : (IntKind → (Int → (Int → Int))) := (fun a b c => (Int.fdiv b (@HPow.hPow.{0, 0, 0} Int Nat Int (@instHPow.{0, 0} Int Nat (@instPowNat.{0} Int Int.instNatPow)) (Int.ofNat (2 : Nat)) (@Min.min.{0} Nat instMinNat (Int.toNat c) (IntKind.bits a)))))
theorem q_shrA_eq : q_shrA = shrA := by
  funext x0 x1 x2
  delta q_shrA shrA
  skip
  try kernel_rfl
noncomputable def q_eqOk : (Env → (Nat → (AV → Bool))) := (fun a b c => (@AV.rec.{1} (fun _ => (Env → (Nat → Bool))) (fun _ => PUnit.{1}) (fun _ _ _ => Bool.true) (fun _ _ _ _ => Bool.true) (fun _ _ _ => Bool.true) (fun _ _ _ _ => Bool.true) (fun _ _ => Bool.true) (fun _ _ _ _ _ _ => Bool.true) (fun _ _ _ _ _ _ => Bool.true) (fun _ _ => Bool.true) (fun _ _ _ => Bool.true) (fun _ _ => Bool.true) (fun _ _ _ => Bool.true) (fun _ _ => Bool.true) (fun _ _ _ _ _ _ _ => Bool.true) (fun _ _ _ => Bool.true) (fun _ _ => Bool.true) (fun _ _ _ _ _ => Bool.false) (fun _ _ => Bool.false) (fun _ _ f g => (@Option.rec.{1, 0} TyI (fun _ => Bool) Bool.false (fun h => (TyI.eqok h)) (Env.ty f g))) (fun _ _ _ _ => Bool.true) (fun _ _ _ => Bool.false) PUnit.unit.{1} (fun _ _ _ _ => PUnit.unit.{1}) c a b))
theorem q_eqOk_eq : q_eqOk = eqOk := by
  funext x0 x1 x2
  delta q_eqOk eqOk eqOk.match_2 eqOk.match_1
  simp only [A_AV, B_AV, A_Option, B_Option, D_Option_0, D_Option_1, S35]
  try kernel_rfl
noncomputable def q_ltI : (Int → (Int → Bool)) := (fun a b => (@Int.rec.{1} (fun _ => (Int → Bool)) (fun c d => (@Int.rec.{1} (fun _ => (Nat → Bool)) (fun e f => (Nat.ble (Nat.succ f) e)) (fun _ _ => Bool.false) d c)) (fun c d => (@Int.rec.{1} (fun _ => (Nat → Bool)) (fun _ _ => Bool.true) (fun e f => (Nat.ble (Nat.succ e) f)) d c)) a b))
theorem q_ltI_eq : q_ltI = ltI := by
  funext x0 x1
  delta q_ltI ltI ltI.match_1 Nat.blt
  simp only [A_Int, B_Int, D_Int_0, D_Int_1]
  try kernel_rfl
noncomputable def q_binA : (Env → (BinOp → (Nat → (AV → (AV → (St → (Option (Prod AV St)))))))) := (fun a b c d e f => (@BinOp.rec.{1} (fun _ => (Env → (Nat → (AV → (AV → ((St → (Option (Prod AV St))) → (St → (Option (Prod AV St))))))))) (fun _ _ i j _ l => (@AV.rec.{1} (fun _ => (AV → (St → (Option (Prod AV St))))) (fun _ => PUnit.{1}) (fun _ _ _ => none) (fun m n o p => (@AV.rec.{1} (fun _ => (IntKind → (Int → (St → (Option (Prod AV St)))))) (fun _ => PUnit.{1}) (fun _ _ _ _ => none) (fun q r s t u => (@Bool.rec.{1} (fun _ => (IntKind → (Int → (Int → (St → (Option (Prod AV St))))))) (fun _ _ _ _ => none) (fun v w x y => ((fun (z : (Int → (St → (Option (Prod AV St))))) => (@Int.rec.{1} (fun _ => ((Int → (St → (Option (Prod AV St)))) → (St → (Option (Prod AV St))))) (fun w26 w27 w28 => ((fun (w29 : (Nat → (St → (Option (Prod AV St))))) => (@Nat.rec.{1} (fun _ => ((Nat → (St → (Option (Prod AV St)))) → (St → (Option (Prod AV St))))) (fun w30 w31 => (w30 (0 : Nat) w31)) (fun w30 _ w32 w33 => (w32 (Nat.add w30 (1 : Nat)) w33)) w26 w29 w28)) (fun w29 => (w27 (Int.ofNat w29))))) (fun w26 w27 w28 => ((fun (w29 : (Nat → (St → (Option (Prod AV St))))) => (@Nat.rec.{1} (fun _ => ((Nat → (St → (Option (Prod AV St)))) → (St → (Option (Prod AV St))))) (fun w30 w31 => (w30 (0 : Nat) w31)) (fun w30 _ w32 w33 => (w32 (Nat.add w30 (1 : Nat)) w33)) w26 w29 w28)) (fun w29 => (w27 (Int.negSucc w29))))) (q_wrapI v (q_Intadd w x)) z y)) (fun z w26 => (some ((AV.int v z), w26))))) (q_beqK s q) s t r u)) (fun _ _ _ _ => none) (fun _ _ _ _ _ => none) (fun _ _ _ => none) (fun _ _ _ _ _ _ _ => none) (fun _ _ _ _ _ _ _ => none) (fun _ _ _ => none) (fun _ _ _ _ => none) (fun _ _ _ => none) (fun _ _ _ _ => none) (fun _ _ _ => none) (fun _ _ _ _ _ _ _ _ => none) (fun _ _ _ _ => none) (fun _ _ _ => none) (fun _ _ _ _ _ _ => none) (fun _ _ _ => none) (fun _ _ _ _ _ => none) (fun _ _ _ _ _ => none) (fun _ _ _ _ => none) PUnit.unit.{1} (fun _ _ _ _ => PUnit.unit.{1}) o m n p)) (fun m n o => (@AV.rec.{1} (fun _ => ((List UInt8) → (St → (Option (Prod AV St))))) (fun _ => PUnit.{1}) (fun _ _ _ => none) (fun _ _ _ _ => none) (fun p q r => (@Bool.rec.{1} (fun _ => ((List UInt8) → ((List UInt8) → (St → (Option (Prod AV St)))))) (fun _ _ _ => none) (fun s t u => (some ((AV.str (q_Listappend2 s t)), u))) (Nat.ble (Nat.add (q_Listlength1 q) (q_Listlength1 p)) (@OfNat.ofNat.{0} Nat (9223372036854775807 : Nat) (instOfNatNat (9223372036854775807 : Nat)))) q p r)) (fun _ _ _ _ => none) (fun _ _ => none) (fun _ _ _ _ _ _ => none) (fun _ _ _ _ _ _ => none) (fun _ _ => none) (fun _ _ _ => none) (fun _ _ => none) (fun _ _ _ => none) (fun _ _ => none) (fun _ _ _ _ _ _ _ => none) (fun _ _ _ => none) (fun _ _ => none) (fun _ _ _ _ _ => none) (fun _ _ => none) (fun _ _ _ _ => none) (fun _ _ _ _ => none) (fun _ _ _ => none) PUnit.unit.{1} (fun _ _ _ _ => PUnit.unit.{1}) n m o)) (fun _ _ _ _ => none) (fun _ _ => none) (fun _ _ _ _ _ _ => none) (fun _ _ _ _ _ _ => none) (fun _ _ => none) (fun _ _ _ => none) (fun _ _ => none) (fun _ _ _ => none) (fun _ _ => none) (fun _ _ _ _ _ _ _ => none) (fun _ _ _ => none) (fun _ _ => none) (fun _ _ _ _ _ => none) (fun _ _ => none) (fun _ _ _ _ => none) (fun _ _ _ _ => none) (fun _ _ _ => none) PUnit.unit.{1} (fun _ _ _ _ => PUnit.unit.{1}) i j l)) (fun _ _ i j _ l => (@AV.rec.{1} (fun _ => (AV → (St → (Option (Prod AV St))))) (fun _ => PUnit.{1}) (fun _ _ _ => none) (fun m n o p => (@AV.rec.{1} (fun _ => (IntKind → (Int → (St → (Option (Prod AV St)))))) (fun _ => PUnit.{1}) (fun _ _ _ _ => none) (fun q r s t u => (@Bool.rec.{1} (fun _ => (IntKind → (Int → (Int → (St → (Option (Prod AV St))))))) (fun _ _ _ _ => none) (fun v w x y => ((fun (z : (Int → (St → (Option (Prod AV St))))) => (@Int.rec.{1} (fun _ => ((Int → (St → (Option (Prod AV St)))) → (St → (Option (Prod AV St))))) (fun w26 w27 w28 => ((fun (w29 : (Nat → (St → (Option (Prod AV St))))) => (@Nat.rec.{1} (fun _ => ((Nat → (St → (Option (Prod AV St)))) → (St → (Option (Prod AV St))))) (fun w30 w31 => (w30 (0 : Nat) w31)) (fun w30 _ w32 w33 => (w32 (Nat.add w30 (1 : Nat)) w33)) w26 w29 w28)) (fun w29 => (w27 (Int.ofNat w29))))) (fun w26 w27 w28 => ((fun (w29 : (Nat → (St → (Option (Prod AV St))))) => (@Nat.rec.{1} (fun _ => ((Nat → (St → (Option (Prod AV St)))) → (St → (Option (Prod AV St))))) (fun w30 w31 => (w30 (0 : Nat) w31)) (fun w30 _ w32 w33 => (w32 (Nat.add w30 (1 : Nat)) w33)) w26 w29 w28)) (fun w29 => (w27 (Int.negSucc w29))))) (q_wrapI v (q_Intsub w x)) z y)) (fun z w26 => (some ((AV.int v z), w26))))) (q_beqK s q) s t r u)) (fun _ _ _ _ => none) (fun _ _ _ _ _ => none) (fun _ _ _ => none) (fun _ _ _ _ _ _ _ => none) (fun _ _ _ _ _ _ _ => none) (fun _ _ _ => none) (fun _ _ _ _ => none) (fun _ _ _ => none) (fun _ _ _ _ => none) (fun _ _ _ => none) (fun _ _ _ _ _ _ _ _ => none) (fun _ _ _ _ => none) (fun _ _ _ => none) (fun _ _ _ _ _ _ => none) (fun _ _ _ => none) (fun _ _ _ _ _ => none) (fun _ _ _ _ _ => none) (fun _ _ _ _ => none) PUnit.unit.{1} (fun _ _ _ _ => PUnit.unit.{1}) o m n p)) (fun _ _ _ => none) (fun _ _ _ _ => none) (fun _ _ => none) (fun _ _ _ _ _ _ => none) (fun _ _ _ _ _ _ => none) (fun _ _ => none) (fun _ _ _ => none) (fun _ _ => none) (fun _ _ _ => none) (fun _ _ => none) (fun _ _ _ _ _ _ _ => none) (fun _ _ _ => none) (fun _ _ => none) (fun _ _ _ _ _ => none) (fun _ _ => none) (fun _ _ _ _ => none) (fun _ _ _ _ => none) (fun _ _ _ => none) PUnit.unit.{1} (fun _ _ _ _ => PUnit.unit.{1}) i j l)) (fun _ _ i j _ l => (@AV.rec.{1} (fun _ => (AV → (St → (Option (Prod AV St))))) (fun _ => PUnit.{1}) (fun _ _ _ => none) (fun m n o p => (@AV.rec.{1} (fun _ => (IntKind → (Int → (St → (Option (Prod AV St)))))) (fun _ => PUnit.{1}) (fun _ _ _ _ => none) (fun q r s t u => (@Bool.rec.{1} (fun _ => (IntKind → (Int → (Int → (St → (Option (Prod AV St))))))) (fun _ _ _ _ => none) (fun v w x y => ((fun (z : (Int → (St → (Option (Prod AV St))))) => (@Int.rec.{1} (fun _ => ((Int → (St → (Option (Prod AV St)))) → (St → (Option (Prod AV St))))) (fun w26 w27 w28 => ((fun (w29 : (Nat → (St → (Option (Prod AV St))))) => (@Nat.rec.{1} (fun _ => ((Nat → (St → (Option (Prod AV St)))) → (St → (Option (Prod AV St))))) (fun w30 w31 => (w30 (0 : Nat) w31)) (fun w30 _ w32 w33 => (w32 (Nat.add w30 (1 : Nat)) w33)) w26 w29 w28)) (fun w29 => (w27 (Int.ofNat w29))))) (fun w26 w27 w28 => ((fun (w29 : (Nat → (St → (Option (Prod AV St))))) => (@Nat.rec.{1} (fun _ => ((Nat → (St → (Option (Prod AV St)))) → (St → (Option (Prod AV St))))) (fun w30 w31 => (w30 (0 : Nat) w31)) (fun w30 _ w32 w33 => (w32 (Nat.add w30 (1 : Nat)) w33)) w26 w29 w28)) (fun w29 => (w27 (Int.negSucc w29))))) (q_wrapI v (q_Intmul w x)) z y)) (fun z w26 => (some ((AV.int v z), w26))))) (q_beqK s q) s t r u)) (fun _ _ _ _ => none) (fun _ _ _ _ _ => none) (fun _ _ _ => none) (fun _ _ _ _ _ _ _ => none) (fun _ _ _ _ _ _ _ => none) (fun _ _ _ => none) (fun _ _ _ _ => none) (fun _ _ _ => none) (fun _ _ _ _ => none) (fun _ _ _ => none) (fun _ _ _ _ _ _ _ _ => none) (fun _ _ _ _ => none) (fun _ _ _ => none) (fun _ _ _ _ _ _ => none) (fun _ _ _ => none) (fun _ _ _ _ _ => none) (fun _ _ _ _ _ => none) (fun _ _ _ _ => none) PUnit.unit.{1} (fun _ _ _ _ => PUnit.unit.{1}) o m n p)) (fun _ _ _ => none) (fun _ _ _ _ => none) (fun _ _ => none) (fun _ _ _ _ _ _ => none) (fun _ _ _ _ _ _ => none) (fun _ _ => none) (fun _ _ _ => none) (fun _ _ => none) (fun _ _ _ => none) (fun _ _ => none) (fun _ _ _ _ _ _ _ => none) (fun _ _ _ => none) (fun _ _ => none) (fun _ _ _ _ _ => none) (fun _ _ => none) (fun _ _ _ _ => none) (fun _ _ _ _ => none) (fun _ _ _ => none) PUnit.unit.{1} (fun _ _ _ _ => PUnit.unit.{1}) i j l)) (fun _ _ i j _ l => (@AV.rec.{1} (fun _ => (AV → (St → (Option (Prod AV St))))) (fun _ => PUnit.{1}) (fun _ _ _ => none) (fun m n o p => (@AV.rec.{1} (fun _ => (IntKind → (Int → (St → (Option (Prod AV St)))))) (fun _ => PUnit.{1}) (fun _ _ _ _ => none) (fun q r s t u => (@Bool.rec.{1} (fun _ => (IntKind → (Int → (Int → (St → (Option (Prod AV St))))))) (fun _ _ _ _ => none) (fun v w x y => (@Bool.rec.{1} (fun _ => (IntKind → (Int → (Int → (St → (Option (Prod AV St))))))) (fun z w26 w27 w28 => ((fun (w29 : (Int → (St → (Option (Prod AV St))))) => (@Int.rec.{1} (fun _ => ((Int → (St → (Option (Prod AV St)))) → (St → (Option (Prod AV St))))) (fun w30 w31 w32 => ((fun (w33 : (Nat → (St → (Option (Prod AV St))))) => (@Nat.rec.{1} (fun _ => ((Nat → (St → (Option (Prod AV St)))) → (St → (Option (Prod AV St))))) (fun w34 w35 => (w34 (0 : Nat) w35)) (fun w34 _ w36 w37 => (w36 (Nat.add w34 (1 : Nat)) w37)) w30 w33 w32)) (fun w33 => (w31 (Int.ofNat w33))))) (fun w30 w31 w32 => ((fun (w33 : (Nat → (St → (Option (Prod AV St))))) => (@Nat.rec.{1} (fun _ => ((Nat → (St → (Option (Prod AV St)))) → (St → (Option (Prod AV St))))) (fun w34 w35 => (w34 (0 : Nat) w35)) (fun w34 _ w36 w37 => (w36 (Nat.add w34 (1 : Nat)) w37)) w30 w33 w32)) (fun w33 => (w31 (Int.negSucc w33))))) (q_wrapI z (Int.tdiv w26 w27)) w29 w28)) (fun w29 w30 => (some ((AV.int z w29), w30))))) (fun _ _ _ _ => none) (q_beqI x (Int.ofNat (0 : Nat))) v w x y)) (q_beqK s q) s t r u)) (fun _ _ _ _ => none) (fun _ _ _ _ _ => none) (fun _ _ _ => none) (fun _ _ _ _ _ _ _ => none) (fun _ _ _ _ _ _ _ => none) (fun _ _ _ => none) (fun _ _ _ _ => none) (fun _ _ _ => none) (fun _ _ _ _ => none) (fun _ _ _ => none) (fun _ _ _ _ _ _ _ _ => none) (fun _ _ _ _ => none) (fun _ _ _ => none) (fun _ _ _ _ _ _ => none) (fun _ _ _ => none) (fun _ _ _ _ _ => none) (fun _ _ _ _ _ => none) (fun _ _ _ _ => none) PUnit.unit.{1} (fun _ _ _ _ => PUnit.unit.{1}) o m n p)) (fun _ _ _ => none) (fun _ _ _ _ => none) (fun _ _ => none) (fun _ _ _ _ _ _ => none) (fun _ _ _ _ _ _ => none) (fun _ _ => none) (fun _ _ _ => none) (fun _ _ => none) (fun _ _ _ => none) (fun _ _ => none) (fun _ _ _ _ _ _ _ => none) (fun _ _ _ => none) (fun _ _ => none) (fun _ _ _ _ _ => none) (fun _ _ => none) (fun _ _ _ _ => none) (fun _ _ _ _ => none) (fun _ _ _ => none) PUnit.unit.{1} (fun _ _ _ _ => PUnit.unit.{1}) i j l)) (fun _ _ i j _ l => (@AV.rec.{1} (fun _ => (AV → (St → (Option (Prod AV St))))) (fun _ => PUnit.{1}) (fun _ _ _ => none) (fun m n o p => (@AV.rec.{1} (fun _ => (IntKind → (Int → (St → (Option (Prod AV St)))))) (fun _ => PUnit.{1}) (fun _ _ _ _ => none) (fun q r s t u => (@Bool.rec.{1} (fun _ => (IntKind → (Int → (Int → (St → (Option (Prod AV St))))))) (fun _ _ _ _ => none) (fun v w x y => (@Bool.rec.{1} (fun _ => (IntKind → (Int → (Int → (St → (Option (Prod AV St))))))) (fun z w26 w27 w28 => ((fun (w29 : (Int → (St → (Option (Prod AV St))))) => (@Int.rec.{1} (fun _ => ((Int → (St → (Option (Prod AV St)))) → (St → (Option (Prod AV St))))) (fun w30 w31 w32 => ((fun (w33 : (Nat → (St → (Option (Prod AV St))))) => (@Nat.rec.{1} (fun _ => ((Nat → (St → (Option (Prod AV St)))) → (St → (Option (Prod AV St))))) (fun w34 w35 => (w34 (0 : Nat) w35)) (fun w34 _ w36 w37 => (w36 (Nat.add w34 (1 : Nat)) w37)) w30 w33 w32)) (fun w33 => (w31 (Int.ofNat w33))))) (fun w30 w31 w32 => ((fun (w33 : (Nat → (St → (Option (Prod AV St))))) => (@Nat.rec.{1} (fun _ => ((Nat → (St → (Option (Prod AV St)))) → (St → (Option (Prod AV St))))) (fun w34 w35 => (w34 (0 : Nat) w35)) (fun w34 _ w36 w37 => (w36 (Nat.add w34 (1 : Nat)) w37)) w30 w33 w32)) (fun w33 => (w31 (Int.negSucc w33))))) (Int.tmod w26 w27) w29 w28)) (fun w29 w30 => (some ((AV.int z w29), w30))))) (fun _ _ _ _ => none) (q_beqI x (Int.ofNat (0 : Nat))) v w x y)) (q_beqK s q) s t r u)) (fun _ _ _ _ => none) (fun _ _ _ _ _ => none) (fun _ _ _ => none) (fun _ _ _ _ _ _ _ => none) (fun _ _ _ _ _ _ _ => none) (fun _ _ _ => none) (fun _ _ _ _ => none) (fun _ _ _ => none) (fun _ _ _ _ => none) (fun _ _ _ => none) (fun _ _ _ _ _ _ _ _ => none) (fun _ _ _ _ => none) (fun _ _ _ => none) (fun _ _ _ _ _ _ => none) (fun _ _ _ => none) (fun _ _ _ _ _ => none) (fun _ _ _ _ _ => none) (fun _ _ _ _ => none) PUnit.unit.{1} (fun _ _ _ _ => PUnit.unit.{1}) o m n p)) (fun _ _ _ => none) (fun _ _ _ _ => none) (fun _ _ => none) (fun _ _ _ _ _ _ => none) (fun _ _ _ _ _ _ => none) (fun _ _ => none) (fun _ _ _ => none) (fun _ _ => none) (fun _ _ _ => none) (fun _ _ => none) (fun _ _ _ _ _ _ _ => none) (fun _ _ _ => none) (fun _ _ => none) (fun _ _ _ _ _ => none) (fun _ _ => none) (fun _ _ _ _ => none) (fun _ _ _ _ => none) (fun _ _ _ => none) PUnit.unit.{1} (fun _ _ _ _ => PUnit.unit.{1}) i j l)) (fun _ _ _ _ k l => (k l)) (fun _ _ _ _ k l => (k l)) (fun _ _ _ _ k l => (k l)) (fun _ _ i j _ l => (@AV.rec.{1} (fun _ => (AV → (St → (Option (Prod AV St))))) (fun _ => PUnit.{1}) (fun _ _ _ => none) (fun m n o p => (@AV.rec.{1} (fun _ => (IntKind → (Int → (St → (Option (Prod AV St)))))) (fun _ => PUnit.{1}) (fun _ _ _ _ => none) (fun _ r s t u => (@Int.rec.{1} (fun _ => (IntKind → (Int → (St → (Option (Prod AV St)))))) (fun v w x y => ((fun (z : (Int → (St → (Option (Prod AV St))))) => (@Int.rec.{1} (fun _ => ((Int → (St → (Option (Prod AV St)))) → (St → (Option (Prod AV St))))) (fun w26 w27 w28 => ((fun (w29 : (Nat → (St → (Option (Prod AV St))))) => (@Nat.rec.{1} (fun _ => ((Nat → (St → (Option (Prod AV St)))) → (St → (Option (Prod AV St))))) (fun w30 w31 => (w30 (0 : Nat) w31)) (fun w30 _ w32 w33 => (w32 (Nat.add w30 (1 : Nat)) w33)) w26 w29 w28)) (fun w29 => (w27 (Int.ofNat w29))))) (fun w26 w27 w28 => ((fun (w29 : (Nat → (St → (Option (Prod AV St))))) => (@Nat.rec.{1} (fun _ => ((Nat → (St → (Option (Prod AV St)))) → (St → (Option (Prod AV St))))) (fun w30 w31 => (w30 (0 : Nat) w31)) (fun w30 _ w32 w33 => (w32 (Nat.add w30 (1 : Nat)) w33)) w26 w29 w28)) (fun w29 => (w27 (Int.negSucc w29))))) (q_shlA w x (Int.ofNat v)) z y)) (fun z w26 => (some ((AV.int w z), w26))))) (fun _ _ _ _ => none) r s t u)) (fun _ _ _ _ => none) (fun _ _ _ _ _ => none) (fun _ _ _ => none) (fun _ _ _ _ _ _ _ => none) (fun _ _ _ _ _ _ _ => none) (fun _ _ _ => none) (fun _ _ _ _ => none) (fun _ _ _ => none) (fun _ _ _ _ => none) (fun _ _ _ => none) (fun _ _ _ _ _ _ _ _ => none) (fun _ _ _ _ => none) (fun _ _ _ => none) (fun _ _ _ _ _ _ => none) (fun _ _ _ => none) (fun _ _ _ _ _ => none) (fun _ _ _ _ _ => none) (fun _ _ _ _ => none) PUnit.unit.{1} (fun _ _ _ _ => PUnit.unit.{1}) o m n p)) (fun _ _ _ => none) (fun _ _ _ _ => none) (fun _ _ => none) (fun _ _ _ _ _ _ => none) (fun _ _ _ _ _ _ => none) (fun _ _ => none) (fun _ _ _ => none) (fun _ _ => none) (fun _ _ _ => none) (fun _ _ => none) (fun _ _ _ _ _ _ _ => none) (fun _ _ _ => none) (fun _ _ => none) (fun _ _ _ _ _ => none) (fun _ _ => none) (fun _ _ _ _ => none) (fun _ _ _ _ => none) (fun _ _ _ => none) PUnit.unit.{1} (fun _ _ _ _ => PUnit.unit.{1}) i j l)) (fun _ _ i j _ l => (@AV.rec.{1} (fun _ => (AV → (St → (Option (Prod AV St))))) (fun _ => PUnit.{1}) (fun _ _ _ => none) (fun m n o p => (@AV.rec.{1} (fun _ => (IntKind → (Int → (St → (Option (Prod AV St)))))) (fun _ => PUnit.{1}) (fun _ _ _ _ => none) (fun _ r s t u => (@Int.rec.{1} (fun _ => (IntKind → (Int → (St → (Option (Prod AV St)))))) (fun v w x y => ((fun (z : (Int → (St → (Option (Prod AV St))))) => (@Int.rec.{1} (fun _ => ((Int → (St → (Option (Prod AV St)))) → (St → (Option (Prod AV St))))) (fun w26 w27 w28 => ((fun (w29 : (Nat → (St → (Option (Prod AV St))))) => (@Nat.rec.{1} (fun _ => ((Nat → (St → (Option (Prod AV St)))) → (St → (Option (Prod AV St))))) (fun w30 w31 => (w30 (0 : Nat) w31)) (fun w30 _ w32 w33 => (w32 (Nat.add w30 (1 : Nat)) w33)) w26 w29 w28)) (fun w29 => (w27 (Int.ofNat w29))))) (fun w26 w27 w28 => ((fun (w29 : (Nat → (St → (Option (Prod AV St))))) => (@Nat.rec.{1} (fun _ => ((Nat → (St → (Option (Prod AV St)))) → (St → (Option (Prod AV St))))) (fun w30 w31 => (w30 (0 : Nat) w31)) (fun w30 _ w32 w33 => (w32 (Nat.add w30 (1 : Nat)) w33)) w26 w29 w28)) (fun w29 => (w27 (Int.negSucc w29))))) (q_shrA w x (Int.ofNat v)) z y)) (fun z w26 => (some ((AV.int w z), w26))))) (fun _ _ _ _ => none) r s t u)) (fun _ _ _ _ => none) (fun _ _ _ _ _ => none) (fun _ _ _ => none) (fun _ _ _ _ _ _ _ => none) (fun _ _ _ _ _ _ _ => none) (fun _ _ _ => none) (fun _ _ _ _ => none) (fun _ _ _ => none) (fun _ _ _ _ => none) (fun _ _ _ => none) (fun _ _ _ _ _ _ _ _ => none) (fun _ _ _ _ => none) (fun _ _ _ => none) (fun _ _ _ _ _ _ => none) (fun _ _ _ => none) (fun _ _ _ _ _ => none) (fun _ _ _ _ _ => none) (fun _ _ _ _ => none) PUnit.unit.{1} (fun _ _ _ _ => PUnit.unit.{1}) o m n p)) (fun _ _ _ => none) (fun _ _ _ _ => none) (fun _ _ => none) (fun _ _ _ _ _ _ => none) (fun _ _ _ _ _ _ => none) (fun _ _ => none) (fun _ _ _ => none) (fun _ _ => none) (fun _ _ _ => none) (fun _ _ => none) (fun _ _ _ _ _ _ _ => none) (fun _ _ _ => none) (fun _ _ => none) (fun _ _ _ _ _ => none) (fun _ _ => none) (fun _ _ _ _ => none) (fun _ _ _ _ => none) (fun _ _ _ => none) PUnit.unit.{1} (fun _ _ _ _ => PUnit.unit.{1}) i j l)) (fun _ _ _ _ k l => (k l)) (fun g h i j _ l => (@AV.rec.{1} (fun _ => (Env → (Nat → (AV → ((St → (Option (Prod AV St))) → (St → (Option (Prod AV St)))))))) (fun _ => PUnit.{1}) (fun _ _ _ _ q r => (q r)) (fun m n o p q _ s => (@AV.rec.{1} (fun _ => (IntKind → (Int → ((St → (Option (Prod AV St))) → (St → (Option (Prod AV St))))))) (fun _ => PUnit.{1}) (fun _ _ _ w x => (w x)) (fun t u v w _ y => (@Bool.rec.{1} (fun _ => (Int → (Int → (St → (Option (Prod AV St)))))) (fun _ _ _ => none) (fun z w26 w27 => ((fun (w28 : (AV → (St → (Option (Prod AV St))))) => (@Bool.rec.{1} (fun _ => ((AV → (St → (Option (Prod AV St)))) → (St → (Option (Prod AV St))))) (fun w29 w30 => (w29 (AV.bool Bool.false) w30)) (fun w29 w30 => (w29 (AV.bool Bool.true) w30)) (q_beqI z w26) w28 w27)) (fun w28 w29 => (some (w28, w29))))) (q_beqK v t) w u y)) (fun _ _ _ w x => (w x)) (fun _ _ _ _ x y => (x y)) (fun _ _ v w => (v w)) (fun _ _ _ _ _ _ z w26 => (z w26)) (fun _ _ _ _ _ _ z w26 => (z w26)) (fun _ _ v w => (v w)) (fun _ _ _ w x => (w x)) (fun _ _ v w => (v w)) (fun _ _ _ w x => (w x)) (fun _ _ v w => (v w)) (fun _ _ _ _ _ _ _ w26 w27 => (w26 w27)) (fun _ _ _ w x => (w x)) (fun _ _ v w => (v w)) (fun _ _ _ _ _ y z => (y z)) (fun _ _ v w => (v w)) (fun _ _ _ _ x y => (x y)) (fun _ _ _ _ x y => (x y)) (fun _ _ _ w x => (w x)) PUnit.unit.{1} (fun _ _ _ _ => PUnit.unit.{1}) q m n (fun t => (@Bool.rec.{1} (fun _ => (Env → (Nat → (AV → (IntKind → (Int → (St → (Option (Prod AV St))))))))) (fun _ _ _ _ _ _ => none) (fun u v w x y z => (@Option.rec.{1, 0} Bool (fun _ => (St → (Option (Prod AV St)))) (fun _ => none) (fun w26 w27 => ((fun (w28 : (AV → (St → (Option (Prod AV St))))) => (@Bool.rec.{1} (fun _ => ((AV → (St → (Option (Prod AV St)))) → (St → (Option (Prod AV St))))) (fun w29 w30 => (w29 (AV.bool Bool.false) w30)) (fun w29 w30 => (w29 (AV.bool Bool.true) w30)) w26 w28 w27)) (fun w28 w29 => (some (w28, w29))))) (eqT u (50 : Nat) v (AV.int x y) w) z)) (q_eqOk o p (AV.int m n)) o p q m n t)) s)) (fun m n o p _ r => (@AV.rec.{1} (fun _ => ((List UInt8) → ((St → (Option (Prod AV St))) → (St → (Option (Prod AV St)))))) (fun _ => PUnit.{1}) (fun _ _ u v => (u v)) (fun _ _ _ v w => (v w)) (fun s t _ v => ((fun (w : (AV → (St → (Option (Prod AV St))))) => (@Bool.rec.{1} (fun _ => ((AV → (St → (Option (Prod AV St)))) → (St → (Option (Prod AV St))))) (fun x y => (x (AV.bool Bool.false) y)) (fun x y => (x (AV.bool Bool.true) y)) (q_beqB t s) w v)) (fun w x => (some (w, x))))) (fun _ _ _ v w => (v w)) (fun _ t u => (t u)) (fun _ _ _ _ _ x y => (x y)) (fun _ _ _ _ _ x y => (x y)) (fun _ t u => (t u)) (fun _ _ u v => (u v)) (fun _ t u => (t u)) (fun _ _ u v => (u v)) (fun _ t u => (t u)) (fun _ _ _ _ _ _ y z => (y z)) (fun _ _ u v => (u v)) (fun _ t u => (t u)) (fun _ _ _ _ w x => (w x)) (fun _ t u => (t u)) (fun _ _ _ v w => (v w)) (fun _ _ _ v w => (v w)) (fun _ _ u v => (u v)) PUnit.unit.{1} (fun _ _ _ _ => PUnit.unit.{1}) p m (fun s => (@Bool.rec.{1} (fun _ => (Env → (Nat → (AV → ((List UInt8) → (St → (Option (Prod AV St)))))))) (fun _ _ _ _ _ => none) (fun t u v w x => (@Option.rec.{1, 0} Bool (fun _ => (St → (Option (Prod AV St)))) (fun _ => none) (fun y z => ((fun (w26 : (AV → (St → (Option (Prod AV St))))) => (@Bool.rec.{1} (fun _ => ((AV → (St → (Option (Prod AV St)))) → (St → (Option (Prod AV St))))) (fun w27 w28 => (w27 (AV.bool Bool.false) w28)) (fun w27 w28 => (w27 (AV.bool Bool.true) w28)) y w26 z)) (fun w26 w27 => (some (w26, w27))))) (eqT t (50 : Nat) u (AV.str w) v) x)) (q_eqOk n o (AV.str m)) n o p m s)) r)) (fun _ _ _ _ _ r s => (r s)) (fun _ _ _ p q => (p q)) (fun _ _ _ _ _ _ _ t u => (t u)) (fun _ _ _ _ _ _ _ t u => (t u)) (fun _ _ _ p q => (p q)) (fun _ _ _ _ q r => (q r)) (fun _ _ _ p q => (p q)) (fun _ _ _ _ q r => (q r)) (fun _ _ _ p q => (p q)) (fun _ _ _ _ _ _ _ _ u v => (u v)) (fun _ _ _ _ q r => (q r)) (fun _ _ _ p q => (p q)) (fun _ _ _ _ _ _ s t => (s t)) (fun _ _ _ p q => (p q)) (fun _ _ _ _ _ r s => (r s)) (fun _ _ _ _ _ r s => (r s)) (fun _ _ _ _ q r => (q r)) PUnit.unit.{1} (fun _ _ _ _ => PUnit.unit.{1}) i g h j (fun m => (@Bool.rec.{1} (fun _ => (Env → (Nat → (AV → (AV → (St → (Option (Prod AV St)))))))) (fun _ _ _ _ _ => none) (fun n o p q r => (@Option.rec.{1, 0} Bool (fun _ => (St → (Option (Prod AV St)))) (fun _ => none) (fun s t => ((fun (u : (AV → (St → (Option (Prod AV St))))) => (@Bool.rec.{1} (fun _ => ((AV → (St → (Option (Prod AV St)))) → (St → (Option (Prod AV St))))) (fun v w => (v (AV.bool Bool.false) w)) (fun v w => (v (AV.bool Bool.true) w)) s u t)) (fun u v => (some (u, v))))) (eqT n (50 : Nat) o p q) r)) (q_eqOk g h i) g h i j m)) l)) (fun g h i j _ l => (@AV.rec.{1} (fun _ => (Env → (Nat → (AV → ((St → (Option (Prod AV St))) → (St → (Option (Prod AV St)))))))) (fun _ => PUnit.{1}) (fun _ _ _ _ q r => (q r)) (fun m n o p q _ s => (@AV.rec.{1} (fun _ => (IntKind → (Int → ((St → (Option (Prod AV St))) → (St → (Option (Prod AV St))))))) (fun _ => PUnit.{1}) (fun _ _ _ w x => (w x)) (fun t u v w _ y => (@Bool.rec.{1} (fun _ => (Int → (Int → (St → (Option (Prod AV St)))))) (fun _ _ _ => none) (fun z w26 w27 => ((fun (w28 : (AV → (St → (Option (Prod AV St))))) => (@Bool.rec.{1} (fun _ => ((AV → (St → (Option (Prod AV St)))) → (St → (Option (Prod AV St))))) (fun w29 w30 => (w29 (AV.bool Bool.false) w30)) (fun w29 w30 => (w29 (AV.bool Bool.true) w30)) (@Bool.rec.{1} (fun _ => Bool) Bool.true Bool.false (q_beqI z w26)) w28 w27)) (fun w28 w29 => (some (w28, w29))))) (q_beqK v t) w u y)) (fun _ _ _ w x => (w x)) (fun _ _ _ _ x y => (x y)) (fun _ _ v w => (v w)) (fun _ _ _ _ _ _ z w26 => (z w26)) (fun _ _ _ _ _ _ z w26 => (z w26)) (fun _ _ v w => (v w)) (fun _ _ _ w x => (w x)) (fun _ _ v w => (v w)) (fun _ _ _ w x => (w x)) (fun _ _ v w => (v w)) (fun _ _ _ _ _ _ _ w26 w27 => (w26 w27)) (fun _ _ _ w x => (w x)) (fun _ _ v w => (v w)) (fun _ _ _ _ _ y z => (y z)) (fun _ _ v w => (v w)) (fun _ _ _ _ x y => (x y)) (fun _ _ _ _ x y => (x y)) (fun _ _ _ w x => (w x)) PUnit.unit.{1} (fun _ _ _ _ => PUnit.unit.{1}) q m n (fun t => (@Bool.rec.{1} (fun _ => (Env → (Nat → (AV → (IntKind → (Int → (St → (Option (Prod AV St))))))))) (fun _ _ _ _ _ _ => none) (fun u v w x y z => (@Option.rec.{1, 0} Bool (fun _ => (St → (Option (Prod AV St)))) (fun _ => none) (fun w26 w27 => ((fun (w28 : (AV → (St → (Option (Prod AV St))))) => (@Bool.rec.{1} (fun _ => ((AV → (St → (Option (Prod AV St)))) → (St → (Option (Prod AV St))))) (fun w29 w30 => (w29 (AV.bool Bool.false) w30)) (fun w29 w30 => (w29 (AV.bool Bool.true) w30)) (@Bool.rec.{1} (fun _ => Bool) Bool.true Bool.false w26) w28 w27)) (fun w28 w29 => (some (w28, w29))))) (eqT u (50 : Nat) v (AV.int x y) w) z)) (q_eqOk o p (AV.int m n)) o p q m n t)) s)) (fun m n o p _ r => (@AV.rec.{1} (fun _ => ((List UInt8) → ((St → (Option (Prod AV St))) → (St → (Option (Prod AV St)))))) (fun _ => PUnit.{1}) (fun _ _ u v => (u v)) (fun _ _ _ v w => (v w)) (fun s t _ v => ((fun (w : (AV → (St → (Option (Prod AV St))))) => (@Bool.rec.{1} (fun _ => ((AV → (St → (Option (Prod AV St)))) → (St → (Option (Prod AV St))))) (fun x y => (x (AV.bool Bool.false) y)) (fun x y => (x (AV.bool Bool.true) y)) (@Bool.rec.{1} (fun _ => Bool) Bool.true Bool.false (q_beqB t s)) w v)) (fun w x => (some (w, x))))) (fun _ _ _ v w => (v w)) (fun _ t u => (t u)) (fun _ _ _ _ _ x y => (x y)) (fun _ _ _ _ _ x y => (x y)) (fun _ t u => (t u)) (fun _ _ u v => (u v)) (fun _ t u => (t u)) (fun _ _ u v => (u v)) (fun _ t u => (t u)) (fun _ _ _ _ _ _ y z => (y z)) (fun _ _ u v => (u v)) (fun _ t u => (t u)) (fun _ _ _ _ w x => (w x)) (fun _ t u => (t u)) (fun _ _ _ v w => (v w)) (fun _ _ _ v w => (v w)) (fun _ _ u v => (u v)) PUnit.unit.{1} (fun _ _ _ _ => PUnit.unit.{1}) p m (fun s => (@Bool.rec.{1} (fun _ => (Env → (Nat → (AV → ((List UInt8) → (St → (Option (Prod AV St)))))))) (fun _ _ _ _ _ => none) (fun t u v w x => (@Option.rec.{1, 0} Bool (fun _ => (St → (Option (Prod AV St)))) (fun _ => none) (fun y z => ((fun (w26 : (AV → (St → (Option (Prod AV St))))) => (@Bool.rec.{1} (fun _ => ((AV → (St → (Option (Prod AV St)))) → (St → (Option (Prod AV St))))) (fun w27 w28 => (w27 (AV.bool Bool.false) w28)) (fun w27 w28 => (w27 (AV.bool Bool.true) w28)) (@Bool.rec.{1} (fun _ => Bool) Bool.true Bool.false y) w26 z)) (fun w26 w27 => (some (w26, w27))))) (eqT t (50 : Nat) u (AV.str w) v) x)) (q_eqOk n o (AV.str m)) n o p m s)) r)) (fun _ _ _ _ _ r s => (r s)) (fun _ _ _ p q => (p q)) (fun _ _ _ _ _ _ _ t u => (t u)) (fun _ _ _ _ _ _ _ t u => (t u)) (fun _ _ _ p q => (p q)) (fun _ _ _ _ q r => (q r)) (fun _ _ _ p q => (p q)) (fun _ _ _ _ q r => (q r)) (fun _ _ _ p q => (p q)) (fun _ _ _ _ _ _ _ _ u v => (u v)) (fun _ _ _ _ q r => (q r)) (fun _ _ _ p q => (p q)) (fun _ _ _ _ _ _ s t => (s t)) (fun _ _ _ p q => (p q)) (fun _ _ _ _ _ r s => (r s)) (fun _ _ _ _ _ r s => (r s)) (fun _ _ _ _ q r => (q r)) PUnit.unit.{1} (fun _ _ _ _ => PUnit.unit.{1}) i g h j (fun m => (@Bool.rec.{1} (fun _ => (Env → (Nat → (AV → (AV → (St → (Option (Prod AV St)))))))) (fun _ _ _ _ _ => none) (fun n o p q r => (@Option.rec.{1, 0} Bool (fun _ => (St → (Option (Prod AV St)))) (fun _ => none) (fun s t => ((fun (u : (AV → (St → (Option (Prod AV St))))) => (@Bool.rec.{1} (fun _ => ((AV → (St → (Option (Prod AV St)))) → (St → (Option (Prod AV St))))) (fun v w => (v (AV.bool Bool.false) w)) (fun v w => (v (AV.bool Bool.true) w)) (@Bool.rec.{1} (fun _ => Bool) Bool.true Bool.false s) u t)) (fun u v => (some (u, v))))) (eqT n (50 : Nat) o p q) r)) (q_eqOk g h i) g h i j m)) l)) (fun _ _ i j _ l => (@AV.rec.{1} (fun _ => (AV → (St → (Option (Prod AV St))))) (fun _ => PUnit.{1}) (fun _ _ _ => none) (fun m n o p => (@AV.rec.{1} (fun _ => (IntKind → (Int → (St → (Option (Prod AV St)))))) (fun _ => PUnit.{1}) (fun _ _ _ _ => none) (fun q r s t u => (@Bool.rec.{1} (fun _ => (Int → (Int → (St → (Option (Prod AV St)))))) (fun _ _ _ => none) (fun v w x => ((fun (y : (AV → (St → (Option (Prod AV St))))) => (@Bool.rec.{1} (fun _ => ((AV → (St → (Option (Prod AV St)))) → (St → (Option (Prod AV St))))) (fun z w26 => (z (AV.bool Bool.false) w26)) (fun z w26 => (z (AV.bool Bool.true) w26)) (q_ltI v w) y x)) (fun y z => (some (y, z))))) (q_beqK s q) t r u)) (fun _ _ _ _ => none) (fun _ _ _ _ _ => none) (fun _ _ _ => none) (fun _ _ _ _ _ _ _ => none) (fun _ _ _ _ _ _ _ => none) (fun _ _ _ => none) (fun _ _ _ _ => none) (fun _ _ _ => none) (fun _ _ _ _ => none) (fun _ _ _ => none) (fun _ _ _ _ _ _ _ _ => none) (fun _ _ _ _ => none) (fun _ _ _ => none) (fun _ _ _ _ _ _ => none) (fun _ _ _ => none) (fun _ _ _ _ _ => none) (fun _ _ _ _ _ => none) (fun _ _ _ _ => none) PUnit.unit.{1} (fun _ _ _ _ => PUnit.unit.{1}) o m n p)) (fun _ _ _ => none) (fun _ _ _ _ => none) (fun _ _ => none) (fun _ _ _ _ _ _ => none) (fun _ _ _ _ _ _ => none) (fun _ _ => none) (fun _ _ _ => none) (fun _ _ => none) (fun _ _ _ => none) (fun _ _ => none) (fun _ _ _ _ _ _ _ => none) (fun _ _ _ => none) (fun _ _ => none) (fun _ _ _ _ _ => none) (fun _ _ => none) (fun _ _ _ _ => none) (fun _ _ _ _ => none) (fun _ _ _ => none) PUnit.unit.{1} (fun _ _ _ _ => PUnit.unit.{1}) i j l)) (fun _ _ i j _ l => (@AV.rec.{1} (fun _ => (AV → (St → (Option (Prod AV St))))) (fun _ => PUnit.{1}) (fun _ _ _ => none) (fun m n o p => (@AV.rec.{1} (fun _ => (IntKind → (Int → (St → (Option (Prod AV St)))))) (fun _ => PUnit.{1}) (fun _ _ _ _ => none) (fun q r s t u => (@Bool.rec.{1} (fun _ => (Int → (Int → (St → (Option (Prod AV St)))))) (fun _ _ _ => none) (fun v w x => ((fun (y : (AV → (St → (Option (Prod AV St))))) => (@Bool.rec.{1} (fun _ => ((AV → (St → (Option (Prod AV St)))) → (St → (Option (Prod AV St))))) (fun z w26 => (z (AV.bool Bool.false) w26)) (fun z w26 => (z (AV.bool Bool.true) w26)) (q_ltI w v) y x)) (fun y z => (@AV.rec.{1} (fun _ => (St → (Option (Prod AV St)))) (fun _ => PUnit.{1}) (fun w26 w27 => ((fun (w28 : (AV → (St → (Option (Prod AV St))))) => (@Bool.rec.{1} (fun _ => ((AV → (St → (Option (Prod AV St)))) → (St → (Option (Prod AV St))))) (fun w29 w30 => (w29 (AV.bool Bool.false) w30)) (fun w29 w30 => (w29 (AV.bool Bool.true) w30)) (@Bool.rec.{1} (fun _ => Bool) Bool.true Bool.false w26) w28 w27)) (fun w28 w29 => (some (w28, w29))))) (fun _ _ _ => none) (fun _ _ => none) (fun _ _ _ => none) (fun _ => none) (fun _ _ _ _ _ => none) (fun _ _ _ _ _ => none) (fun _ => none) (fun _ _ => none) (fun _ => none) (fun _ _ => none) (fun _ => none) (fun _ _ _ _ _ _ => none) (fun _ _ => none) (fun _ => none) (fun _ _ _ _ => none) (fun _ => none) (fun _ _ _ => none) (fun _ _ _ => none) (fun _ _ => none) PUnit.unit.{1} (fun _ _ _ _ => PUnit.unit.{1}) y z)))) (q_beqK s q) t r u)) (fun _ _ _ _ => none) (fun _ _ _ _ _ => none) (fun _ _ _ => none) (fun _ _ _ _ _ _ _ => none) (fun _ _ _ _ _ _ _ => none) (fun _ _ _ => none) (fun _ _ _ _ => none) (fun _ _ _ => none) (fun _ _ _ _ => none) (fun _ _ _ => none) (fun _ _ _ _ _ _ _ _ => none) (fun _ _ _ _ => none) (fun _ _ _ => none) (fun _ _ _ _ _ _ => none) (fun _ _ _ => none) (fun _ _ _ _ _ => none) (fun _ _ _ _ _ => none) (fun _ _ _ _ => none) PUnit.unit.{1} (fun _ _ _ _ => PUnit.unit.{1}) o m n p)) (fun _ _ _ => none) (fun _ _ _ _ => none) (fun _ _ => none) (fun _ _ _ _ _ _ => none) (fun _ _ _ _ _ _ => none) (fun _ _ => none) (fun _ _ _ => none) (fun _ _ => none) (fun _ _ _ => none) (fun _ _ => none) (fun _ _ _ _ _ _ _ => none) (fun _ _ _ => none) (fun _ _ => none) (fun _ _ _ _ _ => none) (fun _ _ => none) (fun _ _ _ _ => none) (fun _ _ _ _ => none) (fun _ _ _ => none) PUnit.unit.{1} (fun _ _ _ _ => PUnit.unit.{1}) i j l)) (fun _ _ i j _ l => (@AV.rec.{1} (fun _ => (AV → (St → (Option (Prod AV St))))) (fun _ => PUnit.{1}) (fun _ _ _ => none) (fun m n o p => (@AV.rec.{1} (fun _ => (IntKind → (Int → (St → (Option (Prod AV St)))))) (fun _ => PUnit.{1}) (fun _ _ _ _ => none) (fun q r s t u => (@Bool.rec.{1} (fun _ => (Int → (Int → (St → (Option (Prod AV St)))))) (fun _ _ _ => none) (fun v w x => ((fun (y : (AV → (St → (Option (Prod AV St))))) => (@Bool.rec.{1} (fun _ => ((AV → (St → (Option (Prod AV St)))) → (St → (Option (Prod AV St))))) (fun z w26 => (z (AV.bool Bool.false) w26)) (fun z w26 => (z (AV.bool Bool.true) w26)) (q_ltI w v) y x)) (fun y z => (some (y, z))))) (q_beqK s q) t r u)) (fun _ _ _ _ => none) (fun _ _ _ _ _ => none) (fun _ _ _ => none) (fun _ _ _ _ _ _ _ => none) (fun _ _ _ _ _ _ _ => none) (fun _ _ _ => none) (fun _ _ _ _ => none) (fun _ _ _ => none) (fun _ _ _ _ => none) (fun _ _ _ => none) (fun _ _ _ _ _ _ _ _ => none) (fun _ _ _ _ => none) (fun _ _ _ => none) (fun _ _ _ _ _ _ => none) (fun _ _ _ => none) (fun _ _ _ _ _ => none) (fun _ _ _ _ _ => none) (fun _ _ _ _ => none) PUnit.unit.{1} (fun _ _ _ _ => PUnit.unit.{1}) o m n p)) (fun _ _ _ => none) (fun _ _ _ _ => none) (fun _ _ => none) (fun _ _ _ _ _ _ => none) (fun _ _ _ _ _ _ => none) (fun _ _ => none) (fun _ _ _ => none) (fun _ _ => none) (fun _ _ _ => none) (fun _ _ => none) (fun _ _ _ _ _ _ _ => none) (fun _ _ _ => none) (fun _ _ => none) (fun _ _ _ _ _ => none) (fun _ _ => none) (fun _ _ _ _ => none) (fun _ _ _ _ => none) (fun _ _ _ => none) PUnit.unit.{1} (fun _ _ _ _ => PUnit.unit.{1}) i j l)) (fun _ _ i j _ l => (@AV.rec.{1} (fun _ => (AV → (St → (Option (Prod AV St))))) (fun _ => PUnit.{1}) (fun _ _ _ => none) (fun m n o p => (@AV.rec.{1} (fun _ => (IntKind → (Int → (St → (Option (Prod AV St)))))) (fun _ => PUnit.{1}) (fun _ _ _ _ => none) (fun q r s t u => (@Bool.rec.{1} (fun _ => (Int → (Int → (St → (Option (Prod AV St)))))) (fun _ _ _ => none) (fun v w x => ((fun (y : (AV → (St → (Option (Prod AV St))))) => (@Bool.rec.{1} (fun _ => ((AV → (St → (Option (Prod AV St)))) → (St → (Option (Prod AV St))))) (fun z w26 => (z (AV.bool Bool.false) w26)) (fun z w26 => (z (AV.bool Bool.true) w26)) (q_ltI v w) y x)) (fun y z => (@AV.rec.{1} (fun _ => (St → (Option (Prod AV St)))) (fun _ => PUnit.{1}) (fun w26 w27 => ((fun (w28 : (AV → (St → (Option (Prod AV St))))) => (@Bool.rec.{1} (fun _ => ((AV → (St → (Option (Prod AV St)))) → (St → (Option (Prod AV St))))) (fun w29 w30 => (w29 (AV.bool Bool.false) w30)) (fun w29 w30 => (w29 (AV.bool Bool.true) w30)) (@Bool.rec.{1} (fun _ => Bool) Bool.true Bool.false w26) w28 w27)) (fun w28 w29 => (some (w28, w29))))) (fun _ _ _ => none) (fun _ _ => none) (fun _ _ _ => none) (fun _ => none) (fun _ _ _ _ _ => none) (fun _ _ _ _ _ => none) (fun _ => none) (fun _ _ => none) (fun _ => none) (fun _ _ => none) (fun _ => none) (fun _ _ _ _ _ _ => none) (fun _ _ => none) (fun _ => none) (fun _ _ _ _ => none) (fun _ => none) (fun _ _ _ => none) (fun _ _ _ => none) (fun _ _ => none) PUnit.unit.{1} (fun _ _ _ _ => PUnit.unit.{1}) y z)))) (q_beqK s q) t r u)) (fun _ _ _ _ => none) (fun _ _ _ _ _ => none) (fun _ _ _ => none) (fun _ _ _ _ _ _ _ => none) (fun _ _ _ _ _ _ _ => none) (fun _ _ _ => none) (fun _ _ _ _ => none) (fun _ _ _ => none) (fun _ _ _ _ => none) (fun _ _ _ => none) (fun _ _ _ _ _ _ _ _ => none) (fun _ _ _ _ => none) (fun _ _ _ => none) (fun _ _ _ _ _ _ => none) (fun _ _ _ => none) (fun _ _ _ _ _ => none) (fun _ _ _ _ _ => none) (fun _ _ _ _ => none) PUnit.unit.{1} (fun _ _ _ _ => PUnit.unit.{1}) o m n p)) (fun _ _ _ => none) (fun _ _ _ _ => none) (fun _ _ => none) (fun _ _ _ _ _ _ => none) (fun _ _ _ _ _ _ => none) (fun _ _ => none) (fun _ _ _ => none) (fun _ _ => none) (fun _ _ _ => none) (fun _ _ => none) (fun _ _ _ _ _ _ _ => none) (fun _ _ _ => none) (fun _ _ => none) (fun _ _ _ _ _ => none) (fun _ _ => none) (fun _ _ _ _ => none) (fun _ _ _ _ => none) (fun _ _ _ => none) PUnit.unit.{1} (fun _ _ _ _ => PUnit.unit.{1}) i j l)) b a c d e (fun g => (@AV.rec.{1} (fun _ => (BinOp → (AV → (St → (Option (Prod AV St)))))) (fun _ => PUnit.{1}) (fun _ _ _ _ => none) (fun h i j k l => (@AV.rec.{1} (fun _ => (BinOp → (IntKind → (Int → (St → (Option (Prod AV St))))))) (fun _ => PUnit.{1}) (fun _ _ _ _ _ => none) (fun m n o p q r => (@Bool.rec.{1} (fun _ => (BinOp → (IntKind → (Int → (IntKind → (Int → (St → (Option (Prod AV St))))))))) (fun s t u v w x => (@Bool.rec.{1} (fun _ => (BinOp → (IntKind → (Int → (Int → (St → (Option (Prod AV St)))))))) (fun _ _ _ _ _ => none) (fun y z w26 w27 w28 => (@Bool.rec.{1} (fun _ => (BinOp → (IntKind → (Int → (Int → (St → (Option (Prod AV St)))))))) (fun _ _ _ _ _ => none) (fun w29 w30 w31 w32 w33 => (@Bool.rec.{1} (fun _ => (BinOp → (IntKind → (Int → (Int → (St → (Option (Prod AV St)))))))) (fun _ _ _ _ _ => none) (fun w34 w35 w36 w37 w38 => (@Option.rec.{1, 0} Int (fun _ => (IntKind → (St → (Option (Prod AV St))))) (fun _ _ => none) (fun w39 w40 w41 => ((fun (w42 : (Int → (St → (Option (Prod AV St))))) => (@Int.rec.{1} (fun _ => ((Int → (St → (Option (Prod AV St)))) → (St → (Option (Prod AV St))))) (fun w43 w44 w45 => ((fun (w46 : (Nat → (St → (Option (Prod AV St))))) => (@Nat.rec.{1} (fun _ => ((Nat → (St → (Option (Prod AV St)))) → (St → (Option (Prod AV St))))) (fun w47 w48 => (w47 (0 : Nat) w48)) (fun w47 _ w49 w50 => (w49 (Nat.add w47 (1 : Nat)) w50)) w43 w46 w45)) (fun w46 => (w44 (Int.ofNat w46))))) (fun w43 w44 w45 => ((fun (w46 : (Nat → (St → (Option (Prod AV St))))) => (@Nat.rec.{1} (fun _ => ((Nat → (St → (Option (Prod AV St)))) → (St → (Option (Prod AV St))))) (fun w47 w48 => (w47 (0 : Nat) w48)) (fun w47 _ w49 w50 => (w49 (Nat.add w47 (1 : Nat)) w50)) w43 w46 w45)) (fun w46 => (w44 (Int.negSucc w46))))) w39 w42 w41)) (fun w42 w43 => (some ((AV.int w40 w42), w43))))) (q_bitsA w34 w35 w36 w37) w35 w38)) (q_fitsN w30 w32) w29 w30 w31 w32 w33)) (q_fitsN z w26) y z w26 w27 w28)) (q_beqK t v) s t u w x)) (fun _ _ _ _ _ _ => none) (@BinOp.rec.{1} (fun _ => Bool) Bool.false Bool.false Bool.false Bool.false Bool.false Bool.false Bool.false Bool.false Bool.true Bool.true Bool.false Bool.false Bool.false Bool.false Bool.false Bool.false Bool.false o) o p q m n r)) (fun _ _ _ _ _ => none) (fun _ _ _ _ _ _ => none) (fun _ _ _ _ => none) (fun _ _ _ _ _ _ _ _ => none) (fun _ _ _ _ _ _ _ _ => none) (fun _ _ _ _ => none) (fun _ _ _ _ _ => none) (fun _ _ _ _ => none) (fun _ _ _ _ _ => none) (fun _ _ _ _ => none) (fun _ _ _ _ _ _ _ _ _ => none) (fun _ _ _ _ _ => none) (fun _ _ _ _ => none) (fun _ _ _ _ _ _ _ => none) (fun _ _ _ _ => none) (fun _ _ _ _ _ _ => none) (fun _ _ _ _ _ _ => none) (fun _ _ _ _ _ => none) PUnit.unit.{1} (fun _ _ _ _ => PUnit.unit.{1}) k j h i l)) (fun _ _ _ _ => none) (fun _ _ _ _ _ => none) (fun _ _ _ => none) (fun _ _ _ _ _ _ _ => none) (fun _ _ _ _ _ _ _ => none) (fun _ _ _ => none) (fun _ _ _ _ => none) (fun _ _ _ => none) (fun _ _ _ _ => none) (fun _ _ _ => none) (fun _ _ _ _ _ _ _ _ => none) (fun _ _ _ _ => none) (fun _ _ _ => none) (fun _ _ _ _ _ _ => none) (fun _ _ _ => none) (fun _ _ _ _ _ => none) (fun _ _ _ _ _ => none) (fun _ _ _ _ => none) PUnit.unit.{1} (fun _ _ _ _ => PUnit.unit.{1}) d b e g)) f))
theorem q_binA_eq : q_binA = binA := by
  funext x0 x1 x2 x3 x4 x5
  delta q_binA binA binA.match_6 fail binA.match_5 isShift isShift.match_1 binA.match_4 int strictI ret strictI.match_1 strictN strictN.match_1 allOne.match_1 binA.match_1 binA.match_3 bool Bool.not cond.match_1 binA.match_2
  simp only [A_BinOp, B_BinOp, A_AV, B_AV, A_Bool, B_Bool, D_Bool_0, D_Bool_1, A_Int, B_Int, D_Int_0, D_Int_1, A_Nat, B_Nat, D_Nat_0, D_Nat_1, A_Option, B_Option, D_Option_0, D_Option_1, S36, S26, S24, S37, S25, S38, S27, S18, S31, S23, q_beqK_eq, q_fitsN_eq, q_bitsA_eq, q_wrapI_eq, q_Intadd_eq, q_Listlength1_eq, q_Listappend2_eq, q_Intsub_eq, q_Intmul_eq, q_beqI_eq, q_shlA_eq, q_shrA_eq, q_eqOk_eq, q_beqB_eq, q_ltI_eq]
  try kernel_rfl
noncomputable def q_uns : (IntKind → Bool) := (fun a => (@IntKind.rec.{1} (fun _ => Bool) Bool.false Bool.false Bool.false Bool.false Bool.true Bool.true Bool.true Bool.true a))
theorem q_uns_eq : q_uns = uns := by
  funext x0
  delta q_uns uns uns.match_1
  simp only [A_IntKind, B_IntKind, S39]
  try kernel_rfl
noncomputable def q_unA : (UnOp → (AV → (St → (Option (Prod AV St))))) := (fun a b c => (@UnOp.rec.{1} (fun _ => (AV → (St → (Option (Prod AV St))))) (fun d e => (@AV.rec.{1} (fun _ => (St → (Option (Prod AV St)))) (fun _ => PUnit.{1}) (fun _ _ => none) (fun f g h => ((fun (i : (Int → (St → (Option (Prod AV St))))) => (@Int.rec.{1} (fun _ => ((Int → (St → (Option (Prod AV St)))) → (St → (Option (Prod AV St))))) (fun j k l => ((fun (m : (Nat → (St → (Option (Prod AV St))))) => (@Nat.rec.{1} (fun _ => ((Nat → (St → (Option (Prod AV St)))) → (St → (Option (Prod AV St))))) (fun n o => (n (0 : Nat) o)) (fun n _ p q => (p (Nat.add n (1 : Nat)) q)) j m l)) (fun m => (k (Int.ofNat m))))) (fun j k l => ((fun (m : (Nat → (St → (Option (Prod AV St))))) => (@Nat.rec.{1} (fun _ => ((Nat → (St → (Option (Prod AV St)))) → (St → (Option (Prod AV St))))) (fun n o => (n (0 : Nat) o)) (fun n _ p q => (p (Nat.add n (1 : Nat)) q)) j m l)) (fun m => (k (Int.negSucc m))))) (q_wrapI f (q_Intsub (Int.ofNat (0 : Nat)) g)) i h)) (fun i j => (some ((AV.int f i), j))))) (fun _ _ => none) (fun _ _ _ => none) (fun _ => none) (fun _ _ _ _ _ => none) (fun _ _ _ _ _ => none) (fun _ => none) (fun _ _ => none) (fun _ => none) (fun _ _ => none) (fun _ => none) (fun _ _ _ _ _ _ => none) (fun _ _ => none) (fun _ => none) (fun _ _ _ _ => none) (fun _ => none) (fun _ _ _ => none) (fun _ _ _ => none) (fun _ _ => none) PUnit.unit.{1} (fun _ _ _ _ => PUnit.unit.{1}) d e)) (fun d e => (@AV.rec.{1} (fun _ => (St → (Option (Prod AV St)))) (fun _ => PUnit.{1}) (fun _ _ => none) (fun f g h => (@Bool.rec.{1} (fun _ => (IntKind → (Int → (St → (Option (Prod AV St)))))) (fun _ _ _ => none) (fun i j k => (@Bool.rec.{1} (fun _ => (IntKind → (Int → (St → (Option (Prod AV St)))))) (fun _ _ _ => none) (fun l m n => (@Option.rec.{1, 0} Int (fun _ => (IntKind → (St → (Option (Prod AV St))))) (fun _ _ => none) (fun o p q => ((fun (r : (Int → (St → (Option (Prod AV St))))) => (@Int.rec.{1} (fun _ => ((Int → (St → (Option (Prod AV St)))) → (St → (Option (Prod AV St))))) (fun s t u => ((fun (v : (Nat → (St → (Option (Prod AV St))))) => (@Nat.rec.{1} (fun _ => ((Nat → (St → (Option (Prod AV St)))) → (St → (Option (Prod AV St))))) (fun w x => (w (0 : Nat) x)) (fun w _ y z => (y (Nat.add w (1 : Nat)) z)) s v u)) (fun v => (t (Int.ofNat v))))) (fun s t u => ((fun (v : (Nat → (St → (Option (Prod AV St))))) => (@Nat.rec.{1} (fun _ => ((Nat → (St → (Option (Prod AV St)))) → (St → (Option (Prod AV St))))) (fun w x => (w (0 : Nat) x)) (fun w _ y z => (y (Nat.add w (1 : Nat)) z)) s v u)) (fun v => (t (Int.negSucc v))))) o r q)) (fun r s => (some ((AV.int p r), s))))) (q_bitsA BinOp.xor l (Int.ofNat (q_maxOf l)) m) l n)) (q_fitsN i j) i j k)) (q_uns f) f g h)) (fun _ _ => none) (fun _ _ _ => none) (fun _ => none) (fun _ _ _ _ _ => none) (fun _ _ _ _ _ => none) (fun _ => none) (fun _ _ => none) (fun _ => none) (fun _ _ => none) (fun _ => none) (fun _ _ _ _ _ _ => none) (fun _ _ => none) (fun _ => none) (fun _ _ _ _ => none) (fun _ => none) (fun _ _ _ => none) (fun _ _ _ => none) (fun _ _ => none) PUnit.unit.{1} (fun _ _ _ _ => PUnit.unit.{1}) d e)) (fun d e => (@AV.rec.{1} (fun _ => (St → (Option (Prod AV St)))) (fun _ => PUnit.{1}) (fun f g => ((fun (h : (AV → (St → (Option (Prod AV St))))) => (@Bool.rec.{1} (fun _ => ((AV → (St → (Option (Prod AV St)))) → (St → (Option (Prod AV St))))) (fun i j => (i (AV.bool Bool.false) j)) (fun i j => (i (AV.bool Bool.true) j)) (@Bool.rec.{1} (fun _ => Bool) Bool.true Bool.false f) h g)) (fun h i => (some (h, i))))) (fun _ _ _ => none) (fun _ _ => none) (fun _ _ _ => none) (fun _ => none) (fun _ _ _ _ _ => none) (fun _ _ _ _ _ => none) (fun _ => none) (fun _ _ => none) (fun _ => none) (fun _ _ => none) (fun _ => none) (fun _ _ _ _ _ _ => none) (fun _ _ => none) (fun _ => none) (fun _ _ _ _ => none) (fun _ => none) (fun _ _ _ => none) (fun _ _ _ => none) (fun _ _ => none) PUnit.unit.{1} (fun _ _ _ _ => PUnit.unit.{1}) d e)) (fun _ _ => none) a b c))
theorem q_unA_eq : q_unA = unA := by
  funext x0 x1 x2
  delta q_unA unA unA.match_1 fail int strictI ret strictI.match_1 strictN strictN.match_1 sliceA.match_2 binA.match_4 bool allOne.match_1 Bool.not cond.match_1
  simp only [A_UnOp, B_UnOp, D_UnOp_0, D_UnOp_1, D_UnOp_2, D_UnOp_3, A_AV, B_AV, A_Int, B_Int, D_Int_0, D_Int_1, A_Nat, B_Nat, D_Nat_0, D_Nat_1, A_Bool, B_Bool, D_Bool_0, D_Bool_1, A_Option, B_Option, D_Option_0, D_Option_1, S40, S26, S25, S23, q_wrapI_eq, q_Intsub_eq, q_uns_eq, q_fitsN_eq, q_bitsA_eq, q_maxOf_eq]
  try kernel_rfl
noncomputable def q_u8List_nil : (Option (List UInt8)) := (some [])
noncomputable def q_u8List_cons : (AV → ((List AV) → ((Option (List UInt8)) → (Option (List UInt8))))) := (fun a _ c => (@AV.rec.{1} (fun _ => ((Option (List UInt8)) → (Option (List UInt8)))) (fun _ => PUnit.{1}) (fun _ _ => none) (fun d e f => (@IntKind.rec.{1} (fun _ => ((Option (List UInt8)) → (Int → (Option (List UInt8))))) (fun _ _ => none) (fun _ _ => none) (fun _ _ => none) (fun _ _ => none) (fun g h => (@Int.rec.{1} (fun _ => ((Option (List UInt8)) → (Option (List UInt8)))) (fun i j => (@Option.rec.{1, 0} (List UInt8) (fun _ => (Nat → (Option (List UInt8)))) (fun _ => none) (fun k l => (some ((UInt8.ofNat l) :: k))) j i)) (fun _ _ => none) h g)) (fun _ _ => none) (fun _ _ => none) (fun _ _ => none) d f e)) (fun _ _ => none) (fun _ _ _ => none) (fun _ => none) (fun _ _ _ _ _ => none) (fun _ _ _ _ _ => none) (fun _ => none) (fun _ _ => none) (fun _ => none) (fun _ _ => none) (fun _ => none) (fun _ _ _ _ _ _ => none) (fun _ _ => none) (fun _ => none) (fun _ _ _ _ => none) (fun _ => none) (fun _ _ _ => none) (fun _ _ _ => none) (fun _ _ => none) PUnit.unit.{1} (fun _ _ _ _ => PUnit.unit.{1}) a c))
noncomputable def q_u8List_r : ((List AV) → (Option (List UInt8))) := (fun a => (@List.rec.{1, 0} AV (fun _ => (Option (List UInt8))) (some []) (fun b _ d => (@AV.rec.{1} (fun _ => ((Option (List UInt8)) → (Option (List UInt8)))) (fun _ => PUnit.{1}) (fun _ _ => none) (fun e f g => (@IntKind.rec.{1} (fun _ => ((Option (List UInt8)) → (Int → (Option (List UInt8))))) (fun _ _ => none) (fun _ _ => none) (fun _ _ => none) (fun _ _ => none) (fun h i => (@Int.rec.{1} (fun _ => ((Option (List UInt8)) → (Option (List UInt8)))) (fun j k => (@Option.rec.{1, 0} (List UInt8) (fun _ => (Nat → (Option (List UInt8)))) (fun _ => none) (fun l m => (some ((UInt8.ofNat m) :: l))) k j)) (fun _ _ => none) i h)) (fun _ _ => none) (fun _ _ => none) (fun _ _ => none) e g f)) (fun _ _ => none) (fun _ _ _ => none) (fun _ => none) (fun _ _ _ _ _ => none) (fun _ _ _ _ _ => none) (fun _ => none) (fun _ _ => none) (fun _ => none) (fun _ _ => none) (fun _ => none) (fun _ _ _ _ _ _ => none) (fun _ _ => none) (fun _ => none) (fun _ _ _ _ => none) (fun _ => none) (fun _ _ _ => none) (fun _ _ _ => none) (fun _ _ => none) PUnit.unit.{1} (fun _ _ _ _ => PUnit.unit.{1}) b d)) a))
noncomputable def q_u8List : ((List AV) → (Option (List UInt8))) := (fun a => (q_u8List_r a))
theorem q_u8List_req : ∀ t, q_u8List_r t = u8List t := by
  intro t
  induction t with
  | nil  =>
    skip
    show q_u8List_nil  = _
    skip
    refine Eq.trans ?_ (Eq.symm (u8List.eq_def ..))
    delta q_u8List_nil allOne.match_2 u8List.match_2 u8List.match_1
    simp only [A_AV, B_AV, A_IntKind, B_IntKind, A_Int, B_Int, D_Int_0, D_Int_1, A_Option, B_Option, D_Option_0, D_Option_1, A_List, B_List, D_List_0, D_List_1, S26, S14, S18]
    try kernel_rfl
  | cons f0 f1 ih0 =>
    skip
    show q_u8List_cons f0 f1 (q_u8List_r f1) = _
    rw [ih0]
    refine Eq.trans ?_ (Eq.symm (u8List.eq_def ..))
    delta q_u8List_cons allOne.match_2 u8List.match_2 u8List.match_1
    simp only [A_AV, B_AV, A_IntKind, B_IntKind, A_Int, B_Int, D_Int_0, D_Int_1, A_Option, B_Option, D_Option_0, D_Option_1, A_List, B_List, D_List_0, D_List_1, S26, S14, S18]
    try kernel_rfl
theorem q_u8List_eq : q_u8List = u8List := by
  funext x0
  show q_u8List_r x0  = _
  rw [q_u8List_req]
noncomputable def q_grown : (Nat → ((List (Option AV)) → (Nat → (St → (Option (Prod AV St)))))) := (fun a b c d => (@Option.rec.{1, 0} (Prod Nat St) (fun _ => (Nat → (Option (Prod AV St)))) (fun _ => none) (fun e f => (@Prod.rec.{1, 0, 0} Nat St (fun _ => (Nat → (Option (Prod AV St)))) (fun g h i => (some ((AV.slice g (0 : Nat) i (ACap.rest (0 : Nat))), h))) e f)) (@St.rec.{1} (fun _ => (Nat → ((List (Option AV)) → (Option (Prod Nat St))))) (fun e f g h i j => (@Option.rec.{1, 0} AObj (fun _ => (Nat → ((List (Option AV)) → ((T AObj) → (Nat → (Ks → (Ks → (Option (Prod Nat St))))))))) (fun k l m n o p => ((fun (q : ((T AObj) → (Option (Prod Nat St)))) => (@T.rec.{1} AObj (fun _ => (((T AObj) → (Option (Prod Nat St))) → (Option (Prod Nat St)))) (fun r => (r (@T.nil AObj))) (fun r s t u v w x y z _ _ _ _ _ _ _ _ w34 => (w34 (@T.node AObj r s t u v w x y z))) (q_TsetP (q_pathF n n) m (some (AObj.row k l))) q)) (fun q => (@Nat.rec.{1} (fun _ => (Ks → (Ks → ((T AObj) → (Option (Prod Nat St)))))) (fun r s t => (some ((0 : Nat), (St.mk t (1 : Nat) r s)))) (fun r _ t u v => (some ((Nat.add r (1 : Nat)), (St.mk v (Nat.add r (2 : Nat)) t u)))) n o p q)))) (fun _ _ _ _ _ _ _ => none) (q_TgetP1 (q_pathF f f) e) i j e f g h)) d a b) c))
theorem q_grown_eq : q_grown = grown := by
  funext x0 x1 x2 x3
  delta q_grown grown bnd bnd.match_1 newO getO.match_2 getO.match_1 T.get T.strictT digit.match_1 T.getP.match_1 T.set ret
  simp only [A_Option, B_Option, D_Option_0, D_Option_1, A_Prod, B_Prod, D_Prod_0, A_St, B_St, D_St_0, A_T, B_T, D_T_0, D_T_1, A_Nat, B_Nat, D_Nat_0, D_Nat_1, q_TgetP1_eq, q_pathF_eq, q_TsetP_eq]
  try kernel_rfl
noncomputable def q_bytesAV_nil : (List AV) := []
noncomputable def q_bytesAV_cons : (UInt8 → ((List UInt8) → ((List AV) → (List AV)))) := (fun a _ c => ((fun (d : (Nat → (List AV))) => (@Nat.rec.{1} (fun _ => ((Nat → (List AV)) → (List AV))) (fun e => (e (0 : Nat))) (fun e _ g => (g (Nat.add e (1 : Nat)))) (UInt8.toNat a) d)) (fun d => ((AV.int IntKind.u8 (Int.ofNat d)) :: c))))
noncomputable def q_bytesAV_r : ((List UInt8) → (List AV)) := (fun a => (@List.rec.{1, 0} UInt8 (fun _ => (List AV)) [] (fun b _ d => ((fun (e : (Nat → (List AV))) => (@Nat.rec.{1} (fun _ => ((Nat → (List AV)) → (List AV))) (fun f => (f (0 : Nat))) (fun f _ h => (h (Nat.add f (1 : Nat)))) (UInt8.toNat b) e)) (fun e => ((AV.int IntKind.u8 (Int.ofNat e)) :: d)))) a))
noncomputable def q_bytesAV : ((List UInt8) → (List AV)) := (fun a => (q_bytesAV_r a))
theorem q_bytesAV_req : ∀ t, q_bytesAV_r t = bytesAV t := by
  intro t
  induction t with
  | nil  =>
    skip
    show q_bytesAV_nil  = _
    skip
    refine Eq.trans ?_ (Eq.symm (bytesAV.eq_def ..))
    delta q_bytesAV_nil bytesAV.match_1 strictN strictN.match_1
    simp only [A_Nat, B_Nat, D_Nat_0, D_Nat_1, A_List, B_List, D_List_0, D_List_1]
    try kernel_rfl
  | cons f0 f1 ih0 =>
    skip
    show q_bytesAV_cons f0 f1 (q_bytesAV_r f1) = _
    rw [ih0]
    refine Eq.trans ?_ (Eq.symm (bytesAV.eq_def ..))
    delta q_bytesAV_cons bytesAV.match_1 strictN strictN.match_1
    simp only [A_Nat, B_Nat, D_Nat_0, D_Nat_1, A_List, B_List, D_List_0, D_List_1]
    try kernel_rfl
theorem q_bytesAV_eq : q_bytesAV = bytesAV := by
  funext x0
  show q_bytesAV_r x0  = _
  rw [q_bytesAV_req]
noncomputable def q_convA : (Env → (Nat → (Nat → (AV → (St → (Option (Prod AV St))))))) := (fun a b c d e => (@Option.rec.{1, 0} (Prod TyI St) (fun _ => (Env → (Nat → (Nat → (AV → (Option (Prod AV St))))))) (fun _ _ _ _ => none) (fun f g h i j => (@Prod.rec.{1, 0, 0} TyI St (fun _ => (Env → (Nat → (Nat → (AV → (Option (Prod AV St))))))) (fun k l m n o p => (@Option.rec.{1, 0} (Prod TyI St) (fun _ => (Env → (Nat → (Nat → (AV → (TyI → (Option (Prod AV St)))))))) (fun _ _ _ _ _ => none) (fun q r s t u v => (@Prod.rec.{1, 0, 0} TyI St (fun _ => (Env → (Nat → (Nat → (AV → (TyI → (Option (Prod AV St)))))))) (fun w x y z w26 w27 w28 => (@TypeDesc.rec.{1} (fun _ => (Env → (Nat → (Nat → (AV → (TyI → (St → (Option (Prod AV St))))))))) (fun _ _ _ _ _ _ => none) (fun _ _ _ _ _ _ => none) (fun w29 _ _ _ w33 _ w35 => (@AV.rec.{1} (fun _ => (IntKind → (St → (Option (Prod AV St))))) (fun _ => PUnit.{1}) (fun _ _ _ => none) (fun _ w37 w38 w39 => ((fun (w40 : (Int → (St → (Option (Prod AV St))))) => (@Int.rec.{1} (fun _ => ((Int → (St → (Option (Prod AV St)))) → (St → (Option (Prod AV St))))) (fun w41 w42 w43 => ((fun (w44 : (Nat → (St → (Option (Prod AV St))))) => (@Nat.rec.{1} (fun _ => ((Nat → (St → (Option (Prod AV St)))) → (St → (Option (Prod AV St))))) (fun w45 w46 => (w45 (0 : Nat) w46)) (fun w45 _ w47 w48 => (w47 (Nat.add w45 (1 : Nat)) w48)) w41 w44 w43)) (fun w44 => (w42 (Int.ofNat w44))))) (fun w41 w42 w43 => ((fun (w44 : (Nat → (St → (Option (Prod AV St))))) => (@Nat.rec.{1} (fun _ => ((Nat → (St → (Option (Prod AV St)))) → (St → (Option (Prod AV St))))) (fun w45 w46 => (w45 (0 : Nat) w46)) (fun w45 _ w47 w48 => (w47 (Nat.add w45 (1 : Nat)) w48)) w41 w44 w43)) (fun w44 => (w42 (Int.negSucc w44))))) (q_wrapI w38 w37) w40 w39)) (fun w40 w41 => (some ((AV.int w38 w40), w41))))) (fun _ _ _ => none) (fun _ _ _ _ => none) (fun _ _ => none) (fun _ _ _ _ _ _ => none) (fun _ _ _ _ _ _ => none) (fun _ _ => none) (fun _ _ _ => none) (fun _ _ => none) (fun _ _ _ => none) (fun _ _ => none) (fun _ _ _ _ _ _ _ => none) (fun _ _ _ => none) (fun _ _ => none) (fun _ _ _ _ _ => none) (fun _ _ => none) (fun _ _ _ _ => none) (fun _ _ _ _ => none) (fun _ _ _ => none) PUnit.unit.{1} (fun _ _ _ _ => PUnit.unit.{1}) w33 w29 w35)) (fun _ _ _ _ _ _ _ => none) (fun _ _ _ _ _ _ _ => none) (fun w29 _ _ w32 w33 w34 => (@AV.rec.{1} (fun _ => (Env → (TyI → (St → (Option (Prod AV St)))))) (fun _ => PUnit.{1}) (fun _ _ _ _ => none) (fun _ _ _ _ _ => none) (fun w35 _ _ w38 => (some ((AV.str w35), w38))) (fun _ _ _ _ _ => none) (fun _ _ _ => none) (fun w35 w36 w37 _ w39 w40 w41 => (@TypeDesc.rec.{1} (fun _ => (Env → (Nat → (Nat → (Nat → (St → (Option (Prod AV St)))))))) (fun _ _ _ _ _ => none) (fun _ _ _ _ _ => none) (fun _ _ _ _ _ _ => none) (fun _ _ _ _ _ _ => none) (fun _ _ _ _ _ _ => none) (fun _ _ _ _ _ => none) (fun _ _ _ _ _ => none) (fun _ _ _ _ _ _ => none) (fun w42 w43 w44 w45 w46 w47 => (@Option.rec.{1, 0} (Prod TyI St) (fun _ => (Nat → (Nat → (Nat → (Option (Prod AV St)))))) (fun _ _ _ => none) (fun w48 w49 w50 w51 => (@Prod.rec.{1, 0, 0} TyI St (fun _ => (Nat → (Nat → (Nat → (Option (Prod AV St)))))) (fun w52 w53 w54 w55 w56 => (@TypeDesc.rec.{1} (fun _ => (Nat → (Nat → (Nat → (St → (Option (Prod AV St))))))) (fun _ _ _ _ => none) (fun _ _ _ _ => none) (fun w57 w58 w59 w60 w61 => (@IntKind.rec.{1} (fun _ => (Nat → (Nat → (Nat → (St → (Option (Prod AV St))))))) (fun _ _ _ _ => none) (fun _ _ _ _ => none) (fun _ _ _ _ => none) (fun _ _ _ _ => none) (fun w62 w63 w64 w65 => (@Option.rec.{1, 0} (Prod (Prod Nat (List (Option AV))) St) (fun _ => (Nat → (Nat → (Option (Prod AV St))))) (fun _ _ => none) (fun w66 w67 w68 => (@Prod.rec.{1, 0, 0} (Prod Nat (List (Option AV))) St (fun _ => (Nat → (Nat → (Option (Prod AV St))))) (fun w69 w70 w71 w72 => (@Option.rec.{1, 0} (List AV) (fun _ => (St → (Option (Prod AV St)))) (fun _ => none) (fun w73 w74 => (@Option.rec.{1, 0} (List UInt8) (fun _ => (St → (Option (Prod AV St)))) (fun _ => none) (fun w75 w76 => (some ((AV.str w75), w76))) (q_u8List w73) w74)) (q_takeAll w72 (q_Listdrop w71 w69.2)) w70)) w66 w67 w68)) (@Option.rec.{1, 0} (Prod AObj St) (fun _ => (Option (Prod (Prod Nat (List (Option AV))) St))) none (fun w66 => (@Prod.rec.{1, 0, 0} AObj St (fun _ => (Option (Prod (Prod Nat (List (Option AV))) St))) (fun w67 w68 => (@AObj.rec.{1} (fun _ => ((St → (Option (Prod (Prod Nat (List (Option AV))) St))) → (St → (Option (Prod (Prod Nat (List (Option AV))) St))))) (fun w69 w70 => (w69 w70)) (fun w69 w70 _ w72 => (some ((w69, w70), w72))) (fun _ _ w71 w72 => (w71 w72)) (fun _ _ _ _ w73 w74 => (w73 w74)) (fun w69 w70 => (w69 w70)) (fun _ _ _ _ _ _ w75 w76 => (w75 w76)) w67 (fun _ => none) w68)) w66)) (@St.rec.{1} (fun _ => (Nat → (Option (Prod AObj St)))) (fun w66 w67 w68 w69 w70 => (@Option.rec.{1, 0} AObj (fun _ => (Nat → ((T AObj) → (Nat → (Ks → (Ks → (Option (Prod AObj St)))))))) (fun _ _ _ _ _ => none) (fun w71 w72 w73 w74 w75 w76 => ((fun (w77 : (Ks → (Option (Prod AObj St)))) => (@Nat.rec.{1} (fun _ => ((Ks → (Option (Prod AObj St))) → (Option (Prod AObj St)))) (fun w78 => (w78 (0 : Nat))) (fun w78 _ w80 => (w80 (Nat.add w78 (1 : Nat)))) (Nat.lor w75 (Nat.shiftLeft (@OfNat.ofNat.{0} Nat (1 : Nat) (instOfNatNat (1 : Nat))) w72)) w77)) (fun w77 => (some (w71, (St.mk w73 w74 w77 w76)))))) (q_TgetP1 (q_pathF w70 w70) w66) w70 w66 w67 w68 w69)) w65 w62)) w63 w64)) (fun _ _ _ _ => none) (fun _ _ _ _ => none) (fun _ _ _ _ => none) w57 w58 w59 w60 w61)) (fun _ _ _ _ _ => none) (fun _ _ _ _ _ => none) (fun _ _ _ _ => none) (fun _ _ _ _ => none) (fun _ _ _ _ _ => none) (fun _ _ _ _ _ => none) (fun _ _ _ _ _ _ => none) (fun _ _ _ _ _ _ => none) (fun _ _ _ _ _ _ => none) (fun _ _ _ _ _ => none) (fun _ _ _ _ _ _ _ => none) (fun _ _ _ _ _ => none) (fun _ _ _ _ _ => none) (fun _ _ _ _ _ _ => none) (TyI.desc w52) w54 w55 w56 w53)) w48 w49 w50 w51)) (@Option.rec.{1, 0} TyI (fun _ => (St → (Option (Prod TyI St)))) (fun _ => none) (fun w48 w49 => (some (w48, w49))) (Env.ty w43 w42) w47) w44 w45 w46)) (fun _ _ _ _ _ _ _ => none) (fun _ _ _ _ _ _ _ => none) (fun _ _ _ _ _ _ _ => none) (fun _ _ _ _ _ _ => none) (fun _ _ _ _ _ _ _ _ => none) (fun _ _ _ _ _ _ => none) (fun _ _ _ _ _ _ => none) (fun _ _ _ _ _ _ _ => none) (TyI.desc w40) w39 w35 w36 w37 w41)) (fun _ _ _ _ _ _ _ => none) (fun w35 w36 w37 => (@TypeDesc.rec.{1} (fun _ => (Env → (St → (Option (Prod AV St))))) (fun _ _ => none) (fun _ _ => none) (fun _ _ _ => none) (fun _ _ _ => none) (fun _ _ _ => none) (fun _ _ => none) (fun _ _ => none) (fun _ _ _ => none) (fun w38 w39 w40 => (@Option.rec.{1, 0} (Prod TyI St) (fun _ => (Option (Prod AV St))) none (fun w41 => (@Prod.rec.{1, 0, 0} TyI St (fun _ => (Option (Prod AV St))) (fun w42 w43 => (@TypeDesc.rec.{1} (fun _ => (St → (Option (Prod AV St)))) (fun _ => none) (fun _ => none) (fun w44 w45 => (@IntKind.rec.{1} (fun _ => (St → (Option (Prod AV St)))) (fun _ => none) (fun _ => none) (fun _ => none) (fun _ => none) (fun w46 => (some ((AV.str []), w46))) (fun _ => none) (fun _ => none) (fun _ => none) w44 w45)) (fun _ _ => none) (fun _ _ => none) (fun _ => none) (fun _ => none) (fun _ _ => none) (fun _ _ => none) (fun _ _ _ => none) (fun _ _ _ => none) (fun _ _ _ => none) (fun _ _ => none) (fun _ _ _ _ => none) (fun _ _ => none) (fun _ _ => none) (fun _ _ _ => none) (TyI.desc w42) w43)) w41)) (@Option.rec.{1, 0} TyI (fun _ => (St → (Option (Prod TyI St)))) (fun _ => none) (fun w41 w42 => (some (w41, w42))) (Env.ty w39 w38) w40))) (fun _ _ _ _ => none) (fun _ _ _ _ => none) (fun _ _ _ _ => none) (fun _ _ _ => none) (fun _ _ _ _ _ => none) (fun _ _ _ => none) (fun _ _ _ => none) (fun _ _ _ _ => none) (TyI.desc w36) w35 w37)) (fun _ _ _ _ => none) (fun _ _ _ => none) (fun _ _ _ _ => none) (fun _ _ _ => none) (fun _ _ _ _ _ _ _ _ => none) (fun _ _ _ _ => none) (fun _ _ _ => none) (fun _ _ _ _ _ _ => none) (fun _ _ _ => none) (fun _ _ _ _ _ => none) (fun _ _ _ _ _ => none) (fun _ _ _ _ => none) PUnit.unit.{1} (fun _ _ _ _ => PUnit.unit.{1}) w32 w29 w33 w34)) (fun _ _ _ _ _ _ => none) (fun _ _ _ _ _ _ _ => none) (fun w29 w30 w31 w32 w33 w34 w35 => (@AV.rec.{1} (fun _ => (Env → (Nat → (Nat → (TyI → (TypeId → (St → (Option (Prod AV St))))))))) (fun _ => PUnit.{1}) (fun _ _ _ _ _ _ _ => none) (fun _ _ _ _ _ _ _ _ => none) (fun w36 w37 _ _ w40 w41 w42 => (@TypeDesc.rec.{1} (fun _ => (Env → (TypeId → ((List UInt8) → (St → (Option (Prod AV St))))))) (fun _ _ _ _ => none) (fun _ _ _ _ => none) (fun _ _ _ _ _ => none) (fun _ _ _ _ _ => none) (fun _ _ _ _ _ => none) (fun w43 w44 w45 w46 => (@Option.rec.{1, 0} (Prod TyI St) (fun _ => ((List UInt8) → (Option (Prod AV St)))) (fun _ => none) (fun w47 w48 => (@Prod.rec.{1, 0, 0} TyI St (fun _ => ((List UInt8) → (Option (Prod AV St)))) (fun w49 w50 w51 => (@TypeDesc.rec.{1} (fun _ => ((List UInt8) → (TyI → (St → (Option (Prod AV St)))))) (fun _ _ _ => none) (fun _ _ _ => none) (fun w52 w53 w54 w55 => (@IntKind.rec.{1} (fun _ => ((List UInt8) → (TyI → (St → (Option (Prod AV St)))))) (fun _ _ _ => none) (fun _ _ _ => none) (fun _ _ _ => none) (fun _ _ _ => none) (fun w56 w57 w58 => (@Bool.rec.{1} (fun _ => ((List UInt8) → (St → (Option (Prod AV St))))) (fun _ _ => none) (fun w59 w60 => ((fun (w61 : (Nat → (St → (Option (Prod AV St))))) => (@Nat.rec.{1} (fun _ => ((Nat → (St → (Option (Prod AV St)))) → (St → (Option (Prod AV St))))) (fun w62 w63 => (w62 (0 : Nat) w63)) (fun w62 _ w64 w65 => (w64 (Nat.add w62 (1 : Nat)) w65)) (q_Listlength1 w59) w61 w60)) (fun w61 => (q_grown (1 : Nat) (q_somes (q_bytesAV w59)) w61)))) (Nat.ble (Nat.mul (Nat.add (Nat.mul (2 : Nat) (q_Listlength1 w56)) (192 : Nat)) (TyI.bytes w57)) (@OfNat.ofNat.{0} Nat (281474976710656 : Nat) (instOfNatNat (281474976710656 : Nat)))) w56 w58)) (fun _ _ _ => none) (fun _ _ _ => none) (fun _ _ _ => none) w52 w53 w54 w55)) (fun _ _ _ _ => none) (fun _ _ _ _ => none) (fun _ _ _ => none) (fun _ _ _ => none) (fun _ _ _ _ => none) (fun _ _ _ _ => none) (fun _ _ _ _ _ => none) (fun _ _ _ _ _ => none) (fun _ _ _ _ _ => none) (fun _ _ _ _ => none) (fun _ _ _ _ _ _ => none) (fun _ _ _ _ => none) (fun _ _ _ _ => none) (fun _ _ _ _ _ => none) (TyI.desc w49) w51 w49 w50)) w47 w48)) (@Option.rec.{1, 0} TyI (fun _ => (St → (Option (Prod TyI St)))) (fun _ => none) (fun w47 w48 => (some (w47, w48))) (Env.ty w43 w44) w46) w45)) (fun _ _ _ _ => none) (fun _ _ _ _ _ => none) (fun _ _ _ _ _ => none) (fun _ _ _ _ _ _ => none) (fun _ _ _ _ _ _ => none) (fun _ _ _ _ _ _ => none) (fun _ _ _ _ _ => none) (fun _ _ _ _ _ _ _ => none) (fun _ _ _ _ _ => none) (fun _ _ _ _ _ => none) (fun _ _ _ _ _ _ => none) (TyI.desc w40) w37 w41 w36 w42)) (fun _ _ _ _ _ _ _ _ => none) (fun _ _ _ _ _ _ => none) (fun w36 w37 w38 w39 w40 w41 w42 _ w44 w45 => (@Bool.rec.{1} (fun _ => (Env → (TypeId → (Nat → (Nat → (Nat → (ACap → (St → (Option (Prod AV St)))))))))) (fun _ _ _ _ _ _ _ => none) (fun w46 w47 w48 w49 w50 w51 w52 => (@Option.rec.{1, 0} (Prod TyI St) (fun _ => (Nat → (Nat → (Nat → (ACap → (Option (Prod AV St))))))) (fun _ _ _ _ => none) (fun w53 w54 w55 w56 w57 => (@Prod.rec.{1, 0, 0} TyI St (fun _ => (Nat → (Nat → (Nat → (ACap → (Option (Prod AV St))))))) (fun w58 w59 w60 w61 w62 w63 => (@TypeDesc.rec.{1} (fun _ => (Nat → (Nat → (Nat → (ACap → (St → (Option (Prod AV St)))))))) (fun _ _ _ _ _ => none) (fun _ _ _ _ _ => none) (fun w64 w65 w66 w67 w68 w69 => (@IntKind.rec.{1} (fun _ => (Nat → (Nat → (Nat → (ACap → (St → (Option (Prod AV St)))))))) (fun _ _ _ _ _ => none) (fun _ _ _ _ _ => none) (fun _ _ _ _ _ => none) (fun _ _ _ _ _ => none) (fun w70 w71 w72 w73 w74 => (@Option.rec.{1, 0} (Prod (Prod Nat (List (Option AV))) St) (fun _ => (Nat → (Nat → (Nat → (ACap → (Option (Prod AV St))))))) (fun _ _ _ _ => none) (fun w75 w76 w77 w78 w79 => (@Prod.rec.{1, 0, 0} (Prod Nat (List (Option AV))) St (fun _ => (Nat → (Nat → (Nat → (ACap → (Option (Prod AV St))))))) (fun _ w81 w82 w83 w84 w85 => (some ((AV.slice w82 w83 w84 w85), w81))) w75 w76 w77 w78 w79)) (@Option.rec.{1, 0} (Prod AObj St) (fun _ => (Option (Prod (Prod Nat (List (Option AV))) St))) none (fun w75 => (@Prod.rec.{1, 0, 0} AObj St (fun _ => (Option (Prod (Prod Nat (List (Option AV))) St))) (fun w76 w77 => (@AObj.rec.{1} (fun _ => ((St → (Option (Prod (Prod Nat (List (Option AV))) St))) → (St → (Option (Prod (Prod Nat (List (Option AV))) St))))) (fun w78 w79 => (w78 w79)) (fun w78 w79 _ w81 => (some ((w78, w79), w81))) (fun _ _ w80 w81 => (w80 w81)) (fun _ _ _ _ w82 w83 => (w82 w83)) (fun w78 w79 => (w78 w79)) (fun _ _ _ _ _ _ w84 w85 => (w84 w85)) w76 (fun _ => none) w77)) w75)) (@St.rec.{1} (fun _ => (Nat → (Option (Prod AObj St)))) (fun w75 w76 w77 w78 w79 => (@Option.rec.{1, 0} AObj (fun _ => (Nat → ((T AObj) → (Nat → (Ks → (Ks → (Option (Prod AObj St)))))))) (fun _ _ _ _ _ => none) (fun w80 w81 w82 w83 w84 w85 => ((fun (w86 : (Ks → (Option (Prod AObj St)))) => (@Nat.rec.{1} (fun _ => ((Ks → (Option (Prod AObj St))) → (Option (Prod AObj St)))) (fun w87 => (w87 (0 : Nat))) (fun w87 _ w89 => (w89 (Nat.add w87 (1 : Nat)))) (Nat.lor w84 (Nat.shiftLeft (@OfNat.ofNat.{0} Nat (1 : Nat) (instOfNatNat (1 : Nat))) w81)) w86)) (fun w86 => (some (w80, (St.mk w82 w83 w86 w85)))))) (q_TgetP1 (q_pathF w79 w79) w75) w79 w75 w76 w77 w78)) w74 w70)) w70 w71 w72 w73)) (fun _ _ _ _ _ => none) (fun _ _ _ _ _ => none) (fun _ _ _ _ _ => none) w64 w65 w66 w67 w68 w69)) (fun _ _ _ _ _ _ => none) (fun _ _ _ _ _ _ => none) (fun _ _ _ _ _ => none) (fun _ _ _ _ _ => none) (fun _ _ _ _ _ _ => none) (fun _ _ _ _ _ _ => none) (fun _ _ _ _ _ _ _ => none) (fun _ _ _ _ _ _ _ => none) (fun _ _ _ _ _ _ _ => none) (fun _ _ _ _ _ _ => none) (fun _ _ _ _ _ _ _ _ => none) (fun _ _ _ _ _ _ => none) (fun _ _ _ _ _ _ => none) (fun _ _ _ _ _ _ _ => none) (TyI.desc w58) w60 w61 w62 w63 w59)) w53 w54 w55 w56 w57)) (@Option.rec.{1, 0} TyI (fun _ => (St → (Option (Prod TyI St)))) (fun _ => none) (fun w53 w54 => (some (w53, w54))) (Env.ty w46 w47) w52) w48 w49 w50 w51)) (Nat.beq w41 w42) w40 w44 w36 w37 w38 w39 w45)) (fun _ _ _ _ _ _ _ _ _ _ => none) (fun _ _ _ _ _ _ => none) (fun _ _ _ _ _ _ _ => none) (fun _ _ _ _ _ _ => none) (fun _ _ _ _ _ _ _ => none) (fun _ _ _ _ _ _ => none) (fun _ _ _ _ _ _ _ _ _ _ _ => none) (fun _ _ _ _ _ _ _ => none) (fun _ _ _ _ _ _ => none) (fun _ _ _ _ _ _ _ _ _ => none) (fun _ _ _ _ _ _ => none) (fun _ _ _ _ _ _ _ _ => none) (fun _ _ _ _ _ _ _ _ => none) (fun _ _ _ _ _ _ _ => none) PUnit.unit.{1} (fun _ _ _ _ => PUnit.unit.{1}) w33 w30 w31 w32 w34 w29 w35)) (fun _ _ _ _ _ _ _ _ => none) (fun _ _ _ _ _ _ _ _ => none) (fun _ _ _ _ _ _ _ _ => none) (fun _ _ _ _ _ _ _ => none) (fun _ _ _ _ _ _ _ _ _ => none) (fun _ _ _ _ _ _ _ => none) (fun _ _ _ _ _ _ _ => none) (fun _ _ _ _ _ _ _ _ => none) (TyI.desc w) y z w26 w27 w28 x)) q r s t u v)) (@Option.rec.{1, 0} TyI (fun _ => (St → (Option (Prod TyI St)))) (fun _ => none) (fun q r => (some (q, r))) (Env.ty m o) l) m n o p k)) f g h i j)) (@Option.rec.{1, 0} TyI (fun _ => (St → (Option (Prod TyI St)))) (fun _ => none) (fun f g => (some (f, g))) (Env.ty a b) e) a b c d))
theorem q_convA_eq : q_convA = convA := by
  funext x0 x1 x2 x3 x4
  delta q_convA convA bnd bnd.match_1 tyOf ofOpt ofOpt.match_1 fail ret convA.match_4 int strictI strictI.match_1 strictN strictN.match_1 buildSliceA.match_1 convA.match_1 getRow getO getO.match_2 getO.match_1 T.get Ks.strict Ks.strictB digit.match_1 Ks.ins getRow.match_1 loadA.match_1 u8List.match_1 convA.match_3 convA.match_2 allOne.match_1
  simp only [A_Option, B_Option, D_Option_0, D_Option_1, A_Prod, B_Prod, D_Prod_0, A_TypeDesc, B_TypeDesc, A_AV, B_AV, A_Int, B_Int, D_Int_0, D_Int_1, A_Nat, B_Nat, D_Nat_0, D_Nat_1, A_IntKind, B_IntKind, A_AObj, B_AObj, D_AObj_0, D_AObj_1, D_AObj_2, D_AObj_3, D_AObj_4, D_AObj_5, A_St, B_St, D_St_0, A_Bool, B_Bool, D_Bool_0, D_Bool_1, S41, S26, S42, S9, S43, S14, S33, S44, S45, S25, q_wrapI_eq, q_TgetP1_eq, q_pathF_eq, q_takeAll_eq, q_Listdrop_eq, q_u8List_eq, q_Listlength1_eq, q_grown_eq, q_somes_eq, q_bytesAV_eq]
  try kernel_rfl
noncomputable def q_arrayAtA : (Env → (Nat → (AV → (St → (Option (Prod AV St)))))) := (fun a b c d => (@Option.rec.{1, 0} (Prod TyI St) (fun _ => (AV → (Option (Prod AV St)))) (fun _ => none) (fun e f => (@Prod.rec.{1, 0, 0} TyI St (fun _ => (AV → (Option (Prod AV St)))) (fun g h i => (@TypeDesc.rec.{1} (fun _ => (AV → (St → (Option (Prod AV St))))) (fun _ _ => none) (fun _ _ => none) (fun _ _ _ => none) (fun _ _ _ => none) (fun _ _ _ => none) (fun _ _ => none) (fun _ _ => none) (fun _ _ _ => none) (fun _ _ _ => none) (fun j _ l m => (@AV.rec.{1} (fun _ => (Nat → (St → (Option (Prod AV St))))) (fun _ => PUnit.{1}) (fun _ _ _ => none) (fun _ _ _ _ => none) (fun _ _ _ => none) (fun _ _ _ _ => none) (fun _ _ => none) (fun n o p _ r s => (@Bool.rec.{1} (fun _ => (Nat → (Nat → (St → (Option (Prod AV St)))))) (fun _ _ _ => none) (fun t u v => (some ((AV.ptr t u), v))) (Nat.ble r p) n o s)) (fun _ _ _ _ _ _ => none) (fun _ _ => none) (fun _ _ _ => none) (fun _ _ => none) (fun _ _ _ => none) (fun _ _ => none) (fun _ _ _ _ _ _ _ => none) (fun _ _ _ => none) (fun _ _ => none) (fun _ _ _ _ _ => none) (fun _ _ => none) (fun _ _ _ _ => none) (fun _ _ _ _ => none) (fun _ _ _ => none) PUnit.unit.{1} (fun _ _ _ _ => PUnit.unit.{1}) l j m)) (fun _ _ _ _ => none) (fun _ _ _ _ => none) (fun _ _ _ => none) (fun _ _ _ _ _ => none) (fun _ _ _ => none) (fun _ _ _ => none) (fun _ _ _ _ => none) (TyI.desc g) i h)) e f)) (@Option.rec.{1, 0} TyI (fun _ => (St → (Option (Prod TyI St)))) (fun _ => none) (fun e f => (some (e, f))) (Env.ty a b) d) c))
theorem q_arrayAtA_eq : q_arrayAtA = arrayAtA := by
  funext x0 x1 x2 x3
  delta q_arrayAtA arrayAtA bnd bnd.match_1 tyOf ofOpt ofOpt.match_1 fail ret arrayAtA.match_1 allOne.match_1
  simp only [A_Option, B_Option, D_Option_0, D_Option_1, A_Prod, B_Prod, D_Prod_0, A_TypeDesc, B_TypeDesc, A_AV, B_AV, A_Bool, B_Bool, D_Bool_0, D_Bool_1, S46, S47]
  try kernel_rfl
noncomputable def q_evs_nil : ((T AV) → (List AV)) := (fun _ => [])
noncomputable def q_evs_cons : (Operand → ((List Operand) → (((T AV) → (List AV)) → ((T AV) → (List AV))))) := (fun a _ c d => ((q_ev d a) :: (c d)))
noncomputable def q_evs_r : ((List Operand) → ((T AV) → (List AV))) := (fun a => (@List.rec.{1, 0} Operand (fun _ => ((T AV) → (List AV))) (fun _ => []) (fun b _ d e => ((q_ev e b) :: (d e))) a))
noncomputable def q_evs : ((T AV) → ((List Operand) → (List AV))) := (fun a b => (q_evs_r b a))
theorem q_evs_req : ∀ t, q_evs_r t = fun x0 => evs x0 t := by
  intro t
  induction t with
  | nil  =>
    funext x0
    show q_evs_nil x0 = _
    skip
    refine Eq.trans ?_ (Eq.symm (evs.eq_def ..))
    delta q_evs_nil evs.match_1
    simp only [A_List, B_List, D_List_0, D_List_1, q_ev_eq]
    try kernel_rfl
  | cons f0 f1 ih0 =>
    funext x0
    show q_evs_cons f0 f1 (q_evs_r f1) x0 = _
    rw [ih0]
    refine Eq.trans ?_ (Eq.symm (evs.eq_def ..))
    delta q_evs_cons evs.match_1
    simp only [A_List, B_List, D_List_0, D_List_1, q_ev_eq]
    try kernel_rfl
theorem q_evs_eq : q_evs = evs := by
  funext x0 x1
  show q_evs_r x1 x0 = _
  rw [q_evs_req]
noncomputable def q_makeChanA : (Env → (Nat → (AV → (St → (Option (Prod AV St)))))) := (fun a b c d => (@Option.rec.{1, 0} (Prod TyI St) (fun _ => (Env → (AV → (Option (Prod AV St))))) (fun _ _ => none) (fun e f g => (@Prod.rec.{1, 0, 0} TyI St (fun _ => (Env → (AV → (Option (Prod AV St))))) (fun h i j k => (@TypeDesc.rec.{1} (fun _ => (Env → (AV → (St → (Option (Prod AV St)))))) (fun _ _ _ => none) (fun _ _ _ => none) (fun _ _ _ _ => none) (fun _ _ _ _ => none) (fun _ _ _ _ => none) (fun _ _ _ => none) (fun _ _ _ => none) (fun _ _ _ _ => none) (fun _ _ _ _ => none) (fun _ _ _ _ _ => none) (fun _ _ _ _ _ => none) (fun _ m n o p => (@AV.rec.{1} (fun _ => (Env → (TypeId → (St → (Option (Prod AV St)))))) (fun _ => PUnit.{1}) (fun _ _ _ _ => none) (fun _ r s t u => (@Int.rec.{1} (fun _ => (Env → (TypeId → (St → (Option (Prod AV St)))))) (fun v w x y => (@Option.rec.{1, 0} (Prod TyI St) (fun _ => (Nat → (Option (Prod AV St)))) (fun _ => none) (fun z w26 => (@Prod.rec.{1, 0, 0} TyI St (fun _ => (Nat → (Option (Prod AV St)))) (fun w27 w28 w29 => (@Bool.rec.{1} (fun _ => (Nat → (TyI → (St → (Option (Prod AV St)))))) (fun _ _ _ => none) (fun w30 w31 w32 => (@Bool.rec.{1} (fun _ => (Nat → (St → (Option (Prod AV St))))) (fun _ _ => none) (fun w33 w34 => (@Option.rec.{1, 0} (Prod Nat St) (fun _ => (Option (Prod AV St))) none (fun w35 => (@Prod.rec.{1, 0, 0} Nat St (fun _ => (Option (Prod AV St))) (fun w36 w37 => (some ((AV.chan w36), w37))) w35)) (@St.rec.{1} (fun _ => (Nat → (Option (Prod Nat St)))) (fun w35 w36 w37 w38 w39 => (@Option.rec.{1, 0} AObj (fun _ => (Nat → ((T AObj) → (Nat → (Ks → (Ks → (Option (Prod Nat St)))))))) (fun w40 w41 w42 w43 w44 => ((fun (w45 : ((T AObj) → (Option (Prod Nat St)))) => (@T.rec.{1} AObj (fun _ => (((T AObj) → (Option (Prod Nat St))) → (Option (Prod Nat St)))) (fun w46 => (w46 (@T.nil AObj))) (fun w46 w47 w48 w49 w50 w51 w52 w53 w54 _ _ _ _ _ _ _ _ w63 => (w63 (@T.node AObj w46 w47 w48 w49 w50 w51 w52 w53 w54))) (q_TsetP (q_pathF w42 w42) w41 (some (AObj.chan w40 [] (0 : Nat) (0 : Nat)))) w45)) (fun w45 => (@Nat.rec.{1} (fun _ => (Ks → (Ks → ((T AObj) → (Option (Prod Nat St)))))) (fun w46 w47 w48 => (some ((0 : Nat), (St.mk w48 (1 : Nat) w46 w47)))) (fun w46 _ w48 w49 w50 => (some ((Nat.add w46 (1 : Nat)), (St.mk w50 (Nat.add w46 (2 : Nat)) w48 w49)))) w42 w43 w44 w45)))) (fun _ _ _ _ _ _ => none) (q_TgetP1 (q_pathF w36 w36) w35) w39 w35 w36 w37 w38)) w34 w33))) (Nat.ble (TyI.bytes w31) (@OfNat.ofNat.{0} Nat (1000000 : Nat) (instOfNatNat (1000000 : Nat)))) w30 w32)) (Nat.ble w29 (@OfNat.ofNat.{0} Nat (1000000 : Nat) (instOfNatNat (1000000 : Nat)))) w29 w27 w28)) z w26)) (@Option.rec.{1, 0} TyI (fun _ => (St → (Option (Prod TyI St)))) (fun _ => none) (fun z w26 => (some (z, w26))) (Env.ty w x) y) v)) (fun _ _ _ _ => none) r s t u)) (fun _ _ _ _ => none) (fun _ _ _ _ _ => none) (fun _ _ _ => none) (fun _ _ _ _ _ _ _ => none) (fun _ _ _ _ _ _ _ => none) (fun _ _ _ => none) (fun _ _ _ _ => none) (fun _ _ _ => none) (fun _ _ _ _ => none) (fun _ _ _ => none) (fun _ _ _ _ _ _ _ _ => none) (fun _ _ _ _ => none) (fun _ _ _ => none) (fun _ _ _ _ _ _ => none) (fun _ _ _ => none) (fun _ _ _ _ _ => none) (fun _ _ _ _ _ => none) (fun _ _ _ _ => none) PUnit.unit.{1} (fun _ _ _ _ => PUnit.unit.{1}) o n m p)) (fun _ _ _ _ => none) (fun _ _ _ _ _ _ => none) (fun _ _ _ _ => none) (fun _ _ _ _ => none) (fun _ _ _ _ _ => none) (TyI.desc h) j k i)) e f g)) (@Option.rec.{1, 0} TyI (fun _ => (St → (Option (Prod TyI St)))) (fun _ => none) (fun e f => (some (e, f))) (Env.ty a b) d) a c))
theorem q_makeChanA_eq : q_makeChanA = makeChanA := by
  funext x0 x1 x2 x3
  delta q_makeChanA makeChanA bnd bnd.match_1 tyOf ofOpt ofOpt.match_1 fail ret makeChanA.match_1 sliceA.match_2 newO getO.match_2 getO.match_1 T.get T.strictT digit.match_1 T.getP.match_1 T.set
  simp only [A_Option, B_Option, D_Option_0, D_Option_1, A_Prod, B_Prod, D_Prod_0, A_TypeDesc, B_TypeDesc, A_AV, B_AV, A_Int, B_Int, D_Int_0, D_Int_1, A_Bool, B_Bool, D_Bool_0, D_Bool_1, A_St, B_St, D_St_0, A_T, B_T, D_T_0, D_T_1, A_Nat, B_Nat, D_Nat_0, D_Nat_1, S48, S26, S18, S25, q_TgetP1_eq, q_pathF_eq, q_TsetP_eq]
  try kernel_rfl
noncomputable def q_makeSliceA : (Env → (Nat → (AV → (AV → (St → (Option (Prod AV St))))))) := (fun a b c d e => (@Option.rec.{1, 0} (Prod TyI St) (fun _ => (Env → (AV → (AV → (Option (Prod AV St)))))) (fun _ _ _ => none) (fun f g h i => (@Prod.rec.{1, 0, 0} TyI St (fun _ => (Env → (AV → (AV → (Option (Prod AV St)))))) (fun j k l m n => (@TypeDesc.rec.{1} (fun _ => (Env → (AV → (AV → (St → (Option (Prod AV St))))))) (fun _ _ _ _ => none) (fun _ _ _ _ => none) (fun _ _ _ _ _ => none) (fun _ _ _ _ _ => none) (fun _ _ _ _ _ => none) (fun _ _ _ _ => none) (fun _ _ _ _ => none) (fun _ _ _ _ _ => none) (fun o p q r s => (@AV.rec.{1} (fun _ => (Env → (AV → (TypeId → (St → (Option (Prod AV St))))))) (fun _ => PUnit.{1}) (fun _ _ _ _ _ => none) (fun _ u v w x y => (@Int.rec.{1} (fun _ => (Env → (AV → (TypeId → (St → (Option (Prod AV St))))))) (fun z w26 w27 w28 w29 => (@AV.rec.{1} (fun _ => (Env → (TypeId → (Nat → (St → (Option (Prod AV St))))))) (fun _ => PUnit.{1}) (fun _ _ _ _ _ => none) (fun _ w31 w32 w33 w34 w35 => (@Int.rec.{1} (fun _ => (Env → (TypeId → (Nat → (St → (Option (Prod AV St))))))) (fun w36 w37 w38 w39 w40 => (@Option.rec.{1, 0} (Prod TyI St) (fun _ => (Nat → (Nat → (Option (Prod AV St))))) (fun _ _ => none) (fun w41 w42 w43 => (@Prod.rec.{1, 0, 0} TyI St (fun _ => (Nat → (Nat → (Option (Prod AV St))))) (fun w44 w45 w46 w47 => (@Bool.rec.{1} (fun _ => (Nat → (Nat → (TyI → (St → (Option (Prod AV St))))))) (fun _ _ _ _ => none) (fun w48 w49 w50 w51 => (@Bool.rec.{1} (fun _ => (Nat → (Nat → (TyI → (St → (Option (Prod AV St))))))) (fun _ _ _ _ => none) (fun w52 w53 w54 w55 => (@Bool.rec.{1} (fun _ => (Nat → (Nat → (TyI → (St → (Option (Prod AV St))))))) (fun _ _ _ _ => none) (fun w56 w57 w58 w59 => (@Bool.rec.{1} (fun _ => (Nat → (Nat → (TyI → (St → (Option (Prod AV St))))))) (fun _ _ _ _ => none) (fun w60 w61 w62 w63 => (@Option.rec.{1, 0} (Prod Nat St) (fun _ => (Nat → (Nat → (Option (Prod AV St))))) (fun _ _ => none) (fun w64 w65 w66 => (@Prod.rec.{1, 0, 0} Nat St (fun _ => (Nat → (Nat → (Option (Prod AV St))))) (fun w67 w68 w69 w70 => ((fun (w71 : (Nat → (St → (Option (Prod AV St))))) => (@Nat.rec.{1} (fun _ => ((Nat → (St → (Option (Prod AV St)))) → (St → (Option (Prod AV St))))) (fun w72 w73 => (w72 (0 : Nat) w73)) (fun w72 _ w74 w75 => (w74 (Nat.add w72 (1 : Nat)) w75)) w69 w71 w68)) (fun w71 => ((fun (w72 : (Nat → (St → (Option (Prod AV St))))) => (fun w73 => (@Nat.rec.{1} (fun _ => ((Nat → (St → (Option (Prod AV St)))) → (St → (Option (Prod AV St))))) (fun w74 w75 => (w74 (0 : Nat) w75)) (fun w74 _ w76 w77 => (w76 (Nat.add w74 (1 : Nat)) w77)) w70 w72 w73))) (fun w72 w73 => (some ((AV.slice w67 (0 : Nat) w71 (ACap.lit w72)), w73))))))) w64 w65 w66)) (q_newRowA (TyI.size w62) (q_repeatA w61 (q_cellsOf (TyI.zero w62))) w63) w60 w61)) (Nat.ble (Nat.succ (0 : Nat)) (TyI.size w58)) w56 w57 w58 w59)) (Nat.ble w53 (@OfNat.ofNat.{0} Nat (100000 : Nat) (instOfNatNat (100000 : Nat)))) w52 w53 w54 w55)) (Nat.ble (Nat.mul (TyI.bytes w50) w49) (@OfNat.ofNat.{0} Nat (281474976710656 : Nat) (instOfNatNat (281474976710656 : Nat)))) w48 w49 w50 w51)) (Nat.ble w46 w47) w46 w47 w44 w45)) w41 w42 w43)) (@Option.rec.{1, 0} TyI (fun _ => (St → (Option (Prod TyI St)))) (fun _ => none) (fun w41 w42 => (some (w41, w42))) (Env.ty w37 w38) w40) w39 w36)) (fun _ _ _ _ _ => none) w31 w32 w33 w34 w35)) (fun _ _ _ _ _ => none) (fun _ _ _ _ _ _ => none) (fun _ _ _ _ => none) (fun _ _ _ _ _ _ _ _ => none) (fun _ _ _ _ _ _ _ _ => none) (fun _ _ _ _ => none) (fun _ _ _ _ _ => none) (fun _ _ _ _ => none) (fun _ _ _ _ _ => none) (fun _ _ _ _ => none) (fun _ _ _ _ _ _ _ _ _ => none) (fun _ _ _ _ _ => none) (fun _ _ _ _ => none) (fun _ _ _ _ _ _ _ => none) (fun _ _ _ _ => none) (fun _ _ _ _ _ _ => none) (fun _ _ _ _ _ _ => none) (fun _ _ _ _ _ => none) PUnit.unit.{1} (fun _ _ _ _ => PUnit.unit.{1}) w27 w26 w28 z w29)) (fun _ _ _ _ _ => none) u v w x y)) (fun _ _ _ _ _ => none) (fun _ _ _ _ _ _ => none) (fun _ _ _ _ => none) (fun _ _ _ _ _ _ _ _ => none) (fun _ _ _ _ _ _ _ _ => none) (fun _ _ _ _ => none) (fun _ _ _ _ _ => none) (fun _ _ _ _ => none) (fun _ _ _ _ _ => none) (fun _ _ _ _ => none) (fun _ _ _ _ _ _ _ _ _ => none) (fun _ _ _ _ _ => none) (fun _ _ _ _ => none) (fun _ _ _ _ _ _ _ => none) (fun _ _ _ _ => none) (fun _ _ _ _ _ _ => none) (fun _ _ _ _ _ _ => none) (fun _ _ _ _ _ => none) PUnit.unit.{1} (fun _ _ _ _ => PUnit.unit.{1}) q p r o s)) (fun _ _ _ _ _ _ => none) (fun _ _ _ _ _ _ => none) (fun _ _ _ _ _ _ => none) (fun _ _ _ _ _ => none) (fun _ _ _ _ _ _ _ => none) (fun _ _ _ _ _ => none) (fun _ _ _ _ _ => none) (fun _ _ _ _ _ _ => none) (TyI.desc j) l m n k)) f g h i)) (@Option.rec.{1, 0} TyI (fun _ => (St → (Option (Prod TyI St)))) (fun _ => none) (fun f g => (some (f, g))) (Env.ty a b) e) a c d))
theorem q_makeSliceA_eq : q_makeSliceA = makeSliceA := by
  funext x0 x1 x2 x3 x4
  delta q_makeSliceA makeSliceA bnd bnd.match_1 tyOf ofOpt ofOpt.match_1 fail ret makeSliceA.match_1 restOk.match_1 Nat.blt strictN strictN.match_1
  simp only [A_Option, B_Option, D_Option_0, D_Option_1, A_Prod, B_Prod, D_Prod_0, A_TypeDesc, B_TypeDesc, A_AV, B_AV, A_Int, B_Int, D_Int_0, D_Int_1, A_Bool, B_Bool, D_Bool_0, D_Bool_1, A_Nat, B_Nat, D_Nat_0, D_Nat_1, S9, S26, S18, S25, q_newRowA_eq, q_repeatA_eq, q_cellsOf_eq]
  try kernel_rfl
noncomputable def q_boundA : ((Option AV) → (Nat → (Option Nat))) := (fun a b => (@Option.rec.{1, 0} AV (fun _ => (Nat → (Option Nat))) (fun c => (some c)) (fun c _ => (@AV.rec.{1} (fun _ => (Option Nat)) (fun _ => PUnit.{1}) (fun _ => none) (fun _ f => (@Int.rec.{1} (fun _ => (Option Nat)) (fun g => (some g)) (fun _ => none) f)) (fun _ => none) (fun _ _ => none) none (fun _ _ _ _ => none) (fun _ _ _ _ => none) none (fun _ => none) none (fun _ => none) none (fun _ _ _ _ _ => none) (fun _ => none) none (fun _ _ _ => none) none (fun _ _ => none) (fun _ _ => none) (fun _ => none) PUnit.unit.{1} (fun _ _ _ _ => PUnit.unit.{1}) c)) a b))
theorem q_boundA_eq : q_boundA = boundA := by
  funext x0 x1
  delta q_boundA boundA boundA.match_1
  simp only [A_Option, B_Option, D_Option_0, D_Option_1, A_AV, B_AV, A_Int, B_Int, D_Int_0, D_Int_1, S26, S18]
  try kernel_rfl
noncomputable def q_Listtake_zero : ((List UInt8) → (List UInt8)) := (fun _ => [])
noncomputable def q_Listtake_succ : (Nat → (((List UInt8) → (List UInt8)) → ((List UInt8) → (List UInt8)))) := (fun _ b c => (@List.rec.{1, 0} UInt8 (fun _ => (((List UInt8) → (List UInt8)) → (List UInt8))) (fun _ => []) (fun d e _ g => (d :: (g e))) c b))
noncomputable def q_Listtake_r : (Nat → ((List UInt8) → (List UInt8))) := (fun a => (@Nat.rec.{1} (fun _ => ((List UInt8) → (List UInt8))) (fun _ => []) (fun _ c d => (@List.rec.{1, 0} UInt8 (fun _ => (((List UInt8) → (List UInt8)) → (List UInt8))) (fun _ => []) (fun e f _ h => (e :: (h f))) d c)) a))
noncomputable def q_Listtake : (Nat → ((List UInt8) → (List UInt8))) := (fun a b => (q_Listtake_r a b))
theorem q_Listtake_req : ∀ t, q_Listtake_r t = fun x1 => (@List.take.{0} UInt8) t x1 := by
  intro t
  induction t with
  | zero  =>
    funext x1
    show q_Listtake_zero x1 = _
    skip
    refine Eq.trans ?_ (Eq.symm (List.take.eq_def ..))
    delta q_Listtake_zero List.take.match_1
    simp only [A_List, B_List, D_List_0, D_List_1, A_Nat, B_Nat, D_Nat_0, D_Nat_1]
    try kernel_rfl
  | succ f0 ih0 =>
    funext x1
    show q_Listtake_succ f0 (q_Listtake_r f0) x1 = _
    rw [ih0]
    refine Eq.trans ?_ (Eq.symm (List.take.eq_def ..))
    delta q_Listtake_succ List.take.match_1
    simp only [A_List, B_List, D_List_0, D_List_1, A_Nat, B_Nat, D_Nat_0, D_Nat_1]
    try kernel_rfl
theorem q_Listtake_eq : q_Listtake = (@List.take.{0} UInt8) := by
  funext x0 x1
  show q_Listtake_r x0 x1 = _
  rw [q_Listtake_req]
noncomputable def q_Listdrop1_zero : ((List UInt8) → (List UInt8)) := (fun a => a)
noncomputable def q_Listdrop1_succ : (Nat → (((List UInt8) → (List UInt8)) → ((List UInt8) → (List UInt8)))) := (fun _ b c => (@List.rec.{1, 0} UInt8 (fun _ => (((List UInt8) → (List UInt8)) → (List UInt8))) (fun _ => []) (fun _ e _ g => (g e)) c b))
noncomputable def q_Listdrop1_r : (Nat → ((List UInt8) → (List UInt8))) := (fun a => (@Nat.rec.{1} (fun _ => ((List UInt8) → (List UInt8))) (fun b => b) (fun _ c d => (@List.rec.{1, 0} UInt8 (fun _ => (((List UInt8) → (List UInt8)) → (List UInt8))) (fun _ => []) (fun _ f _ h => (h f)) d c)) a))
noncomputable def q_Listdrop1 : (Nat → ((List UInt8) → (List UInt8))) := (fun a b => (q_Listdrop1_r a b))
theorem q_Listdrop1_req : ∀ t, q_Listdrop1_r t = fun x1 => (@List.drop.{0} UInt8) t x1 := by
  intro t
  induction t with
  | zero  =>
    funext x1
    show q_Listdrop1_zero x1 = _
    skip
    refine Eq.trans ?_ (Eq.symm (List.drop.eq_def ..))
    delta q_Listdrop1_zero List.take.match_1
    simp only [A_List, B_List, D_List_0, D_List_1, A_Nat, B_Nat, D_Nat_0, D_Nat_1]
    try kernel_rfl
  | succ f0 ih0 =>
    funext x1
    show q_Listdrop1_succ f0 (q_Listdrop1_r f0) x1 = _
    rw [ih0]
    refine Eq.trans ?_ (Eq.symm (List.drop.eq_def ..))
    delta q_Listdrop1_succ List.take.match_1
    simp only [A_List, B_List, D_List_0, D_List_1, A_Nat, B_Nat, D_Nat_0, D_Nat_1]
    try kernel_rfl
theorem q_Listdrop1_eq : q_Listdrop1 = (@List.drop.{0} UInt8) := by
  funext x0 x1
  show q_Listdrop1_r x0 x1 = _
  rw [q_Listdrop1_req]
noncomputable def q_sliceLit : (Nat → (Nat → (Nat → (Nat → (Nat → ((Option Nat) → ((Option Nat) → ((Option Nat) → (St → (Option (Prod AV St))))))))))) := (fun a b _ d e f g h i => (@Option.rec.{1, 0} Nat (fun _ => (Nat → (Nat → (Nat → (Nat → ((Option Nat) → ((Option Nat) → (St → (Option (Prod AV St)))))))))) (fun _ _ _ _ _ _ _ => none) (fun j k l m n o p q => (@Option.rec.{1, 0} Nat (fun _ => (Nat → (Nat → (Nat → (Nat → ((Option Nat) → (Nat → (St → (Option (Prod AV St)))))))))) (fun _ _ _ _ _ _ _ => none) (fun r s t u v w x y => (@Option.rec.{1, 0} Nat (fun _ => (Nat → (Nat → (Nat → (Nat → (Nat → (Nat → (St → (Option (Prod AV St)))))))))) (fun _ _ _ _ _ _ _ => none) (fun z w26 w27 w28 w29 w30 w31 w32 => (@Bool.rec.{1} (fun _ => (Nat → (Nat → (Nat → (Nat → (Nat → (Nat → (Nat → (St → (Option (Prod AV St))))))))))) (fun _ _ _ _ _ _ _ _ => none) (fun w33 w34 w35 w36 w37 w38 w39 w40 => (@Bool.rec.{1} (fun _ => (Nat → (Nat → (Nat → (Nat → (Nat → (Nat → (Nat → (St → (Option (Prod AV St))))))))))) (fun _ _ _ _ _ _ _ _ => none) (fun w41 w42 w43 w44 w45 w46 w47 w48 => (@Bool.rec.{1} (fun _ => (Nat → (Nat → (Nat → (Nat → (Nat → (Nat → (St → (Option (Prod AV St)))))))))) (fun _ _ _ _ _ _ _ => none) (fun w49 w50 w51 w52 w53 w54 w55 => (@Bool.rec.{1} (fun _ => (Nat → (Nat → (Nat → (Nat → (Nat → (Nat → (St → (Option (Prod AV St)))))))))) (fun w56 w57 w58 w59 w60 w61 w62 => ((fun (w63 : (Nat → (St → (Option (Prod AV St))))) => (@Nat.rec.{1} (fun _ => ((Nat → (St → (Option (Prod AV St)))) → (St → (Option (Prod AV St))))) (fun w64 w65 => (w64 (0 : Nat) w65)) (fun w64 _ w66 w67 => (w66 (Nat.add w64 (1 : Nat)) w67)) (Nat.sub w60 w59) w63 w62)) (fun w63 => ((fun (w64 : (Nat → (St → (Option (Prod AV St))))) => (fun w65 => (@Nat.rec.{1} (fun _ => ((Nat → (St → (Option (Prod AV St)))) → (St → (Option (Prod AV St))))) (fun w66 w67 => (w66 (0 : Nat) w67)) (fun w66 _ w68 w69 => (w68 (Nat.add w66 (1 : Nat)) w69)) (Nat.sub w61 w59) w64 w65))) (fun w64 => ((fun (w65 : (Nat → (St → (Option (Prod AV St))))) => (fun w66 => (@Nat.rec.{1} (fun _ => ((Nat → (St → (Option (Prod AV St)))) → (St → (Option (Prod AV St))))) (fun w67 w68 => (w67 (0 : Nat) w68)) (fun w67 _ w69 w70 => (w69 (Nat.add w67 (1 : Nat)) w70)) (Nat.add w57 (Nat.mul w59 w58)) w65 w66))) (fun w65 w66 => (some ((AV.slice w56 w65 w63 (ACap.lit w64)), w66))))))))) (fun w56 w57 _ w59 w60 _ w62 => ((fun (w63 : (Nat → (St → (Option (Prod AV St))))) => (@Nat.rec.{1} (fun _ => ((Nat → (St → (Option (Prod AV St)))) → (St → (Option (Prod AV St))))) (fun w64 w65 => (w64 (0 : Nat) w65)) (fun w64 _ w66 w67 => (w66 (Nat.add w64 (1 : Nat)) w67)) (Nat.sub w60 w59) w63 w62)) (fun w63 w64 => (some ((AV.slice w56 w57 w63 (ACap.lit (0 : Nat))), w64))))) (Nat.beq w54 w52) w49 w50 w51 w52 w53 w54 w55)) (Nat.ble w47 w43) w41 w42 w44 w45 w46 w47 w48)) (Nat.ble w38 w39) w33 w34 w35 w36 w37 w38 w39 w40)) (Nat.ble w30 w31) w26 w27 w28 w29 w30 w31 z w32)) w s t u v x r y)) o k l m n p j q)) f a b d e g h i))
theorem q_sliceLit_eq : q_sliceLit = sliceLit := by
  funext x0 x1 x2 x3 x4 x5 x6 x7 x8
  delta q_sliceLit sliceLit sliceLit.match_2 fail sliceLit.match_1 allOne.match_1 strictN ret strictN.match_1
  simp only [A_Option, B_Option, D_Option_0, D_Option_1, A_Bool, B_Bool, D_Bool_0, D_Bool_1, A_Nat, B_Nat, D_Nat_0, D_Nat_1, S31, S25]
  try kernel_rfl
noncomputable def q_hiA : ((Option AV) → ((Option AV) → (Nat → (Option Nat)))) := (fun a b c => (@Option.rec.{1, 0} AV (fun _ => ((Option AV) → (Nat → ((Option Nat) → (Option Nat))))) (fun _ _ f => f) (fun _ e f _ => (@Option.rec.{1, 0} AV (fun _ => ((Option Nat) → (Option Nat))) (fun _ => none) (fun _ i => i) e (q_boundA e f))) a b c (q_boundA b c)))
theorem q_hiA_eq : q_hiA = hiA := by
  funext x0 x1 x2
  delta q_hiA hiA hiA.match_1
  simp only [A_Option, B_Option, D_Option_0, D_Option_1, S31, S4, q_boundA_eq]
  try kernel_rfl
noncomputable def q_Listlength2_nil : Nat := (@OfNat.ofNat.{0} Nat (0 : Nat) (instOfNatNat (0 : Nat)))
noncomputable def q_Listlength2_cons : ((Option AV) → ((List (Option AV)) → (Nat → Nat))) := (fun _ _ c => (Nat.add c (1 : Nat)))
noncomputable def q_Listlength2_r : ((List (Option AV)) → Nat) := (fun a => (@List.rec.{1, 0} (Option AV) (fun _ => Nat) (@OfNat.ofNat.{0} Nat (0 : Nat) (instOfNatNat (0 : Nat))) (fun _ _ d => (Nat.add d (1 : Nat))) a))
noncomputable def q_Listlength2 : ((List (Option AV)) → Nat) := (fun a => (q_Listlength2_r a))
theorem q_Listlength2_req : ∀ t, q_Listlength2_r t = (@List.length.{0} (Option AV)) t := by
  intro t
  induction t with
  | nil  =>
    skip
    show q_Listlength2_nil  = _
    skip
    refine Eq.trans ?_ (Eq.symm (List.length.eq_def ..))
    delta q_Listlength2_nil instDecidableEqList.match_1
    simp only [A_List, B_List, D_List_0, D_List_1]
    try kernel_rfl
  | cons f0 f1 ih0 =>
    skip
    show q_Listlength2_cons f0 f1 (q_Listlength2_r f1) = _
    rw [ih0]
    refine Eq.trans ?_ (Eq.symm (List.length.eq_def ..))
    delta q_Listlength2_cons instDecidableEqList.match_1
    simp only [A_List, B_List, D_List_0, D_List_1]
    try kernel_rfl
theorem q_Listlength2_eq : q_Listlength2 = (@List.length.{0} (Option AV)) := by
  funext x0
  show q_Listlength2_r x0  = _
  rw [q_Listlength2_req]
noncomputable def q_restOk : ((Prod Nat (List (Option AV))) → (Nat → (Nat → (Nat → (Nat → Bool))))) := (fun a b c d e => (@Bool.rec.{1} (fun _ => ((Prod Nat (List (Option AV))) → (Nat → (Nat → (Nat → (Nat → Bool)))))) (fun _ _ _ _ _ => Bool.false) (fun f g h i j => (@Bool.rec.{1} (fun _ => ((Prod Nat (List (Option AV))) → (Nat → (Nat → (Nat → Bool))))) (fun _ _ _ _ => Bool.false) (fun k l m n => (@Bool.rec.{1} (fun _ => (Nat → Bool)) (fun _ => Bool.false) (fun o => (@Bool.rec.{1} (fun _ => Bool) Bool.false Bool.true (Nat.ble (Nat.succ (0 : Nat)) o))) (Nat.ble (Nat.add l (Nat.mul m n)) (q_Listlength2 k.2)) n)) (Nat.beq g (Nat.mul j i)) f g h i)) (Nat.beq a.1 d) a b c d e))
theorem q_restOk_eq : q_restOk = restOk := by
  funext x0 x1 x2 x3 x4
  delta q_restOk restOk restOk.match_1 Nat.blt
  simp only [A_Bool, B_Bool, D_Bool_0, D_Bool_1, S25, q_Listlength2_eq]
  try kernel_rfl
noncomputable def q_isZ : ((Option Nat) → Bool) := (fun a => (@Option.rec.{1, 0} Nat (fun _ => Bool) Bool.false (fun b => (Nat.beq b (@OfNat.ofNat.{0} Nat (0 : Nat) (instOfNatNat (0 : Nat))))) a))
theorem q_isZ_eq : q_isZ = isZ := by
  funext x0
  delta q_isZ isZ buildA.match_1
  simp only [A_Option, B_Option, D_Option_0, D_Option_1]
  try kernel_rfl
end Go.Aex
