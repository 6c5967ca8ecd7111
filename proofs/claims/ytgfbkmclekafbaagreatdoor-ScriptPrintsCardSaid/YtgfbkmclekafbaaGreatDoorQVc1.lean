/- The words of a weakest-precondition reading of the model's code: values taken apart by their kinds, cells read and written, calls met by contracts. No program in sight. -/
import Derived.Orders
import Derived.OrdersIn
import Derived.Scope
import Derived.Laws.World
import Derived.Laws.Entries
import Derived.WalkKit
set_option linter.unusedVariables false
set_option linter.unusedSimpArgs false
set_option linter.unnecessarySimpa false
namespace Go.Vc
open Go

/-- temporaries -/
abbrev Env := Nat → Value
def Env.set (e : Env) (d : Nat) (v : Value) : Env := fun t => bif Nat.beq t d then v else e t
def Env.put (e : Env) (d : Option Nat) (v : Value) : Env := match d with | none => e | some d => e.set d v
def Env.ev (e : Env) : Operand → Value
  | .tmp t => e t
  | .const v => v
  | .global g => .pointer (some ⟨g, 0, none⟩)
  | .func f => .func (.func f) #[] #[]

/-- kinds of one-cell values -/
inductive Leaf where
  | int (k : IntKind) | bool | str | flt (k : FloatKind) | ptr | slice | map | val | blk
inductive Sh where
  | leaf (l : Leaf) | agg (ls : List Leaf) | tup (ss : List Sh)

def asI (k : IntKind) (v : Value) (K : Int → Prop) : Prop := match v with | .int k' n => (match decide (k' = k) with | true => K n | false => False) | _ => False
def asB (v : Value) (K : Bool → Prop) : Prop := match v with | .bool b => K b | _ => False
def asS (v : Value) (K : ByteArray → Prop) : Prop := match v with | .string s => K s | _ => False
def asF (k : FloatKind) (v : Value) (K : Nat → Prop) : Prop := match v with | .float k' n => (match decide (k' = k) with | true => K n | false => False) | _ => False
def asP (v : Value) (K : Option Addr → Prop) : Prop := match v with | .pointer a => K a | _ => False
def asL (v : Value) (K : Option Addr → Nat → Nat → Prop) : Prop := match v with | .slice a l c => K a l c | _ => False
def asM (v : Value) (K : Option Nat → Prop) : Prop := match v with | .map r => K r | _ => False
def Cur : Nat → Type
  | 0 => Prop
  | n + 1 => Value → Cur n
def app : (n : Nat) → Cur n → List Value → Prop
  | 0, F, [] => F
  | n + 1, F, v :: r => app n (F v) r
  | _, _, _ => False
def lamN : (n : Nat) → (List Value → Prop) → Cur n
  | 0, G => G []
  | n + 1, G => fun v => lamN n fun l => G (v :: l)
def agN (n : Nat) (v : Value) (K : Cur n) : Prop := match v with | .agg a => app n K a.toList | _ => False
def tuN (n : Nat) (v : Value) (K : Cur n) : Prop := match v with | .tuple a => app n K a.toList | _ => False

def asLeaf (l : Leaf) (v : Value) (K : Value → Prop) : Prop := match l with
  | .int k => asI k v fun n => K (.int k n)
  | .bool => asB v fun b => K (.bool b)
  | .str => asS v fun s => K (.string s)
  | .flt k => asF k v fun n => K (.float k n)
  | .ptr => asP v fun a => K (.pointer a)
  | .slice => asL v fun a l c => K (.slice a l c)
  | .map => asM v fun r => K (.map r)
  | .val => K v
  | .blk => False
def asLeaves : List Leaf → List Value → (List Value → Prop) → Prop
  | [], _, K => K []
  | _ :: _, [], _ => False
  | l :: ls, v :: vs, K => asLeaf l v fun v' => asLeaves ls vs fun vs' => K (v' :: vs')
mutual
def asSh : Sh → Value → (Value → Prop) → Prop
  | .leaf l, v, K => asLeaf l v K
  | .agg ls, v, K => agN ls.length v (lamN ls.length fun vs => asLeaves ls vs fun vs' => K (.agg vs'.toArray))
  | .tup ss, v, K => tuN ss.length v (lamN ss.length fun vs => asShs ss vs fun vs' => K (.tuple vs'.toArray))
def asShs : List Sh → List Value → (List Value → Prop) → Prop
  | [], _, K => K []
  | _ :: _, [], _ => False
  | s :: ss, v :: vs, K => asSh s v fun v' => asShs ss vs fun vs' => K (v' :: vs')
end
def allLeaf (l : Leaf) (F : Value → Prop) : Prop := match l with
  | .int k => ∀ n, F (.int k n)
  | .bool => ∀ b, F (.bool b)
  | .str => ∀ s, F (.string s)
  | .flt k => ∀ n, F (.float k n)
  | .ptr => ∀ a, F (.pointer a)
  | .slice => ∀ a l c, F (.slice a l c)
  | .map => ∀ r, F (.map r)
  | .val => ∀ v, F v
  | .blk => ∀ b : Nat, F (.pointer (some ⟨b, 0, none⟩))
def allLeaves : List Leaf → (List Value → Prop) → Prop
  | [], F => F []
  | l :: ls, F => allLeaf l fun v => allLeaves ls fun vs => F (v :: vs)
mutual
def allSh : Sh → (Value → Prop) → Prop
  | .leaf l, F => allLeaf l F
  | .agg ls, F => allLeaves ls fun vs => F (.agg vs.toArray)
  | .tup ss, F => allShs ss fun vs => F (.tuple vs.toArray)
def allShs : List Sh → (List Value → Prop) → Prop
  | [], F => F []
  | s :: ss, F => allSh s fun v => allShs ss fun vs => F (v :: vs)
end

/-- memory -/
def ld (w : World) (a : Addr) (K : Value → Prop) : Prop := match w.cell? a with | some v => K v | none => False
def ldLeaves (w : World) (a : Addr) : Nat → List Leaf → (List Value → Prop) → Prop
  | _, [], K => K []
  | i, l :: r, K => ld w (a.add i) fun v => asLeaf l v fun v' => ldLeaves w a (i + 1) r fun vs => K (v' :: vs)
def stOk (w : World) (a : Addr) (n : Nat) : Prop := ∀ i, i < n → (w.cell? (a.add i)).isSome = true ∧ w.frozen? (a.add i) = false
def setAll (w : World) (a : Addr) : Nat → List Value → World
  | _, [] => w
  | i, v :: r => setAll (w.setCell (a.add i) v) a (i + 1) r
def st (w : World) (a : Addr) (vs : List Value) (K : World → Prop) : Prop := stOk w a vs.length ∧ ∀ w1, w1 = setAll w a 0 vs → K w1
def al (w : World) (o : Obj) (K : Nat → World → Prop) : Prop := ∀ b w1, b = w.heap.size → w1 = w.alloc o → K b w1
def nn (p : Option Addr) (K : Addr → Prop) : Prop := match p with | some a => K a | none => False

/-- a type's cells -/
def flat (P : Program) : Nat → TypeId → Option (List Leaf)
  | 0, _ => none
  | n + 1, t => match P.underlying t with
    | some .bool => some [.bool]
    | some (.int k) => some [.int k]
    | some (.float k) => some [.flt k]
    | some .string => some [.str]
    | some (.pointer _) | some .unsafePointer => some [.ptr]
    | some (.slice _) => some [.slice]
    | some (.map ..) => some [.map]
    | some (.func ..) | some (.interface _) | some (.chan ..) => some [.val]
    | some (.array m e) => (flat P n e).map fun l => (List.replicate m l).flatten
    | some (.struct fs) => fs.toList.foldr (fun f r => match flat P n f.type, r with | some a, some b => some (a ++ b) | _, _ => none) (some [])
    | _ => none
def isAggT (P : Program) (t : TypeId) : Bool := match P.underlying t with | some (.struct _) | some (.array ..) => true | _ => false
def tySh (P : Program) (t : TypeId) : Option Sh := match P.underlying t with
  | some (.tuple es) => es.toList.foldr (fun t r => match (match isAggT P t, flat P 20 t with | true, some ls => some (Sh.agg ls) | false, some [l] => some (.leaf l) | _, _ => none), r with | some a, some (Sh.tup b) => some (.tup (a :: b)) | _, _ => none) (some (.tup []))
  | _ => match isAggT P t, flat P 20 t with | true, some ls => some (Sh.agg ls) | false, some [l] => some (.leaf l) | _, _ => none

/-- a call's outcome -/
def onRet (K : Value → World → Prop) (X : List PanicEntry → World → Prop) : Ending → World → Prop
  | .returned v, w => K v w
  | .panicked c, w => X c w
  | .outgrown, _ => False
def call (P : Program) (f : FuncId) (args : List Value) (w : World) (K : Value → World → Prop) (X : List PanicEntry → World → Prop) : Prop :=
  Calls P f args.toArray w (onRet K X)
/-- what an operation's run comes to, taken as it is -/
def upon (P : Program) (K : Value → World → Prop) (X : List PanicEntry → World → Prop) : Result Next → Prop
  | .ok (.value v) w => K v w
  | .ok .skip w => K undef w
  | .ok (.enter f args) w => Calls P f args w (onRet K X)
  | .ok (.round l f tmps assign body) w => RoundIn Fence.wide 0 P l f tmps assign body w (onRet K X)
  | .halt (.panic v) w => X [{ v, recovered := false }] w
  | _ => False
end Go.Vc
