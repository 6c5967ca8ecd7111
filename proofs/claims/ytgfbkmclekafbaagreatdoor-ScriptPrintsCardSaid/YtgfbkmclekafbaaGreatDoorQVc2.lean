/- The weakest-precondition reading itself: operation by operation, region by region, statement by statement. No program in sight. -/
import Derived.Test.YtgfbkmclekafbaaGreatDoorQVc1
set_option linter.unusedVariables false
set_option linter.unusedSimpArgs false
set_option linter.unnecessarySimpa false
namespace Go.Vc
open Go

/-- bytes -/
def bs (l : List UInt8) : ByteArray := ⟨l.toArray⟩
def iAdd (k : IntKind) (a b : Int) : Int := k.wrap (a + b)
def iSub (k : IntKind) (a b : Int) : Int := k.wrap (a - b)
def iMul (k : IntKind) (a b : Int) : Int := k.wrap (a * b)
def iQuo (k : IntKind) (a b : Int) : Int := k.wrap (a.tdiv b)
def iRem (a b : Int) : Int := a.tmod b
def iShl (k : IntKind) (a b : Int) : Int := k.wrap (a * 2 ^ min b.toNat k.bits)
def iShr (k : IntKind) (a b : Int) : Int := a.fdiv (2 ^ min b.toNat k.bits)
def bAnd (k : IntKind) (a b : Int) : Int := k.wrap ((BitVec.ofInt k.bits a &&& BitVec.ofInt k.bits b).toNat : Int)
def bOr (k : IntKind) (a b : Int) : Int := k.wrap ((BitVec.ofInt k.bits a ||| BitVec.ofInt k.bits b).toNat : Int)
def bXor (k : IntKind) (a b : Int) : Int := k.wrap ((BitVec.ofInt k.bits a ^^^ BitVec.ofInt k.bits b).toNat : Int)
def bAndnot (k : IntKind) (a b : Int) : Int := k.wrap ((BitVec.ofInt k.bits a &&& ~~~(BitVec.ofInt k.bits b)).toNat : Int)
def iEq (a b : Int) : Bool := a == b
def iNe (a b : Int) : Bool := a != b
def iLt (a b : Int) : Bool := decide (a < b)
def iLe (a b : Int) : Bool := decide (a ≤ b)
def iGt (a b : Int) : Bool := decide (a > b)
def iGe (a b : Int) : Bool := decide (a ≥ b)
def sEq (a b : ByteArray) : Bool := a.toList == b.toList
def sNe (a b : ByteArray) : Bool := !(a.toList == b.toList)
def sLt (a b : ByteArray) : Bool := Op.bytesLess a.toList b.toList
def sLe (a b : ByteArray) : Bool := Op.bytesLess a.toList b.toList || a.toList == b.toList
def sGt (a b : ByteArray) : Bool := !(Op.bytesLess a.toList b.toList || a.toList == b.toList)
def sGe (a b : ByteArray) : Bool := !(Op.bytesLess a.toList b.toList)
def cat (a b : ByteArray) : ByteArray := a ++ b
def catOk (a b : ByteArray) : Prop := ((a.size + b.size : Nat) : Int) ≤ 9223372036854775807
def cutS (s : ByteArray) (l h : Nat) : ByteArray := s.extract l h
def lenN (n : Nat) : Int := (n : Int)
def nng (b : Int) : Prop := 0 ≤ b
def nz (b : Int) : Prop := b ≠ 0
/-- an index within l -/
def inB (n : Int) (l : Nat) : Prop := 0 ≤ n ∧ n < (l : Int)
/-- a bound up to l -/
def inC (n : Int) (l : Nat) : Prop := 0 ≤ n ∧ n ≤ (l : Int)
def sb (h l : Nat) : Nat := h - l
def scale (n s : Nat) : Nat := match s with | 1 => n | s => n * s
theorem scale_eq (n s : Nat) : scale n s = n * s := by unfold scale; split <;> simp
def fOrd (k : FloatKind) (a b : Nat) := k.format.order a b
def atI (cs : Array Value) (i : Nat) (K : Value → Prop) : Prop := match cs[i]? with | some v => K v | none => False
/-- a run that yields a value -/
def runV (P : Program) (s : Sem Value) (w : World) (K : Value → World → Prop) (X : List PanicEntry → World → Prop) : Prop :=
  match s.run P w with
  | .ok v w => K v w
  | .halt (.panic v) w => X [{ v, recovered := false }] w
  | _ => False
def runU (P : Program) (s : Sem Unit) (w : World) (K : World → Prop) (X : List PanicEntry → World → Prop) : Prop :=
  match s.run P w with
  | .ok _ w => K w
  | .halt (.panic v) w => X [{ v, recovered := false }] w
  | _ => False
/-- a call of a function without a body -/
def callX (P : Program) (f : FuncId) (args : List Value) (w : World) (K : Value → World → Prop) (X : List PanicEntry → World → Prop) : Prop :=
  upon P K X ((callFunc f args.toArray).run P w)
/-- a call of a function value -/
def callV (P : Program) (v : Value) (args : List Value) (w : World) (K : Value → World → Prop) (X : List PanicEntry → World → Prop) : Prop :=
  upon P K X ((do let d ← Deferred.ofValue v args.toArray; invoke d.target d.args : Sem Next).run P w)
/-- a method of an interface value -/
def callI (P : Program) (v : Value) (name : String) (args : List Value) (w : World) (K : Value → World → Prop) (X : List PanicEntry → World → Prop) : Prop :=
  upon P K X ((callMethod v name args.toArray).run P w)
def asT (P : Program) (t : TypeId) (v : Value) (K : Value → Prop) : Prop := match tySh P t with | some s => asSh s v K | none => False

def oc (b : Bool) (K : Prop) : Prop := match b with | true => K | false => False
def ocAll : List Value → Prop → Prop
  | [], K => K
  | v :: r, K => oc v.oneCell' (ocAll r K)
def bt (s : ByteArray) (n : Int) : Int := ((s.data.toList.getD n.toNat 0).toNat : Int)
def slA (a : Option Addr) (l c sz : Nat) : Option Addr := if c = l then a else a.map (·.add (l * sz))
def mapO (e : Env) (x : Option Operand) : Option Value := match x with | some x => some (e.ev x) | none => none

/-- the bounds of a cut: K gets the lower and the upper one -/
def cutL (h : Nat) (lo : Option Value) (K : Nat → Nat → Prop) : Prop := match lo with
  | none => K 0 h
  | some (.int _ n) => inC n h ∧ K n.toNat h
  | _ => False
def cutB (len cap : Nat) (lo hi : Option Value) (K : Nat → Nat → Prop) : Prop := match hi with
  | none => cutL len lo K
  | some (.int _ n) => inC n cap ∧ cutL n.toNat lo K
  | _ => False
def partV (P : Program) (t : TypeId) (cs : Array Value) (off : Nat) (K : Value → Prop) : Prop :=
  match isAggT P t, P.info? t with
  | true, some i => asT P t (.agg (cs.extract off (off + i.size))) K
  | false, some _ => (match P.underlying t, cs[off]? with | some _, some v => asT P t v K | _, _ => False)
  | _, _ => False

def evs (e : Env) : List Operand → List Value
  | [] => []
  | x :: r => e.ev x :: evs e r
def parts (e : Env) : List (Nat × Operand) → List (Nat × Value)
  | [] => []
  | (i, x) :: r => (i, e.ev x) :: parts e r

def ifOk : Value → Bool
  | .nilIface => true
  | .iface _ _ => true
  | _ => false
def nilI : Value → Bool
  | .nilIface => true
  | _ => false
/-- a list gone round and round, n long -/
def repsFrom (z : List Value) : List Value → Nat → List Value
  | _, 0 => []
  | v :: r, n + 1 => v :: repsFrom z r n
  | [], n + 1 => (match z with | v :: r => v :: repsFrom z r n | [] => [])
def reps (z : List Value) (n : Nat) : List Value := repsFrom z z n
/-- where a field lies, how many cells it has, and whether it is a struct or an array -/
def fldAt (P : Program) (fs : List Field) (i : Nat) : Option (Nat × Nat × Bool) := match fs[i]? with
  | some f => (match P.info? f.type with | some inf => some (f.offset, inf.size, isAggT P f.type) | none => none)
  | none => none
def setFrom : List Value → Nat → List Value → List Value
  | cs, _, [] => cs
  | cs, o, v :: r => setFrom (cs.set o v) (o + 1) r
def fillV (place : Nat → Option (Nat × Nat × Bool)) (cs : List Value) : List (Nat × Value) → (List Value → Prop) → Prop
  | [], K => K cs
  | (i, v) :: r, K => (match place i with
    | some (o, n, true) => (match Nat.beq v.cells.size n, Nat.ble (o + v.cells.size) cs.length with | true, true => fillV place (setFrom cs o v.cells.toList) r K | _, _ => False)
    | some (o, n, false) => (match Nat.beq n 1, Nat.ble (o + 1) cs.length with | true, true => oc v.oneCell' (fillV place (cs.set o v) r K) | _, _ => False)
    | none => False)
/-- the literal nil -/
def nilC : Operand → Bool
  | .const .nilIface => true
  | .const (.pointer none) => true
  | .const (.slice none _ _) => true
  | .const (.map none) => true
  | _ => false
def nb (neg b : Bool) : Bool := match neg with | true => !b | false => b
def vcNil (P : Program) (t : TypeId) (neg : Bool) (u v : Value) (w : World) (K : Value → World → Prop) : Prop := match v with
  | .nilIface => (match P.underlying t with | some (.interface _) => ifOk u = true ∧ K (.bool (nb neg (nilI u))) w | _ => False)
  | .pointer none => (match P.underlying t, u with | some (.pointer _), .pointer p => K (.bool (nb neg p.isNone)) w | _, _ => False)
  | .slice none _ _ => (match P.underlying t, u with | some (.slice _), .slice p _ _ => K (.bool (nb neg p.isNone)) w | _, _ => False)
  | .map none => (match P.underlying t, u with | some (.map _ _), .map p => K (.bool (nb neg p.isNone)) w | _, _ => False)
  | _ => False
/-- a branch -/
def cnd (b : Bool) (T F : Prop) : Prop := match b with | true => T | false => F
theorem cnd_i {b : Bool} {T F : Prop} (h1 : b = true → T) (h2 : b = false → F) : cnd b T F := by cases b; exact h2 rfl; exact h1 rfl
theorem cnd_e {b : Bool} {T F : Prop} (h : cnd b T F) : (b = true → T) ∧ (b = false → F) := by
  cases b
  · exact And.intro (fun hb => nomatch hb) (fun _ => h)
  · exact And.intro (fun _ => h) (fun hb => nomatch hb)
/-- what a range hands out: an element, or that there is none -/
def nxt (v : Value) (E : Value → Value → Prop) (O : Prop) : Prop := match v with
  | .tuple vs => (match vs.toList with | [.bool true, x, y] => E x y | [.bool false] => O | _ => False)
  | _ => False
theorem nxt_e {v : Value} {E : Value → Value → Prop} {O : Prop} (h : nxt v E O) : (∃ x y, v = .tuple #[.bool true, x, y] ∧ E x y) ∨ (v = .tuple #[.bool false] ∧ O) := by
  cases v <;> try exact h.elim
  rename_i vs
  obtain ⟨l⟩ := vs
  rcases l with _ | ⟨b, l⟩
  · exact h.elim
  cases b <;> try exact h.elim
  rename_i b
  cases b
  · rcases l with _ | ⟨x, l⟩
    · exact .inr ⟨rfl, h⟩
    · exact h.elim
  · rcases l with _ | ⟨x, l⟩
    · exact h.elim
    rcases l with _ | ⟨y, l⟩
    · exact h.elim
    rcases l with _ | ⟨z, l⟩
    · exact .inl ⟨x, y, rfl, h⟩
    · exact h.elim
def vcDef (P : Program) (ty : TypeId) (op : BinOp) (t : TypeId) (x y : Operand) (u v : Value) (w : World) (K : Value → World → Prop) (X : List PanicEntry → World → Prop) : Prop :=
  runV P (do eqGuard op t x y u v; binOp op t u v) w (fun r w1 => asT P ty r fun r' => K r' w1) X
def vcBin (P : Program) (ty : TypeId) (op : BinOp) (t : TypeId) (x y : Operand) (u v : Value) (w : World) (K : Value → World → Prop) (X : List PanicEntry → World → Prop) : Prop :=
  match nilC y with
  | true => (match op with | .eql => vcNil P t false u v w K | .neq => vcNil P t true u v w K | _ => False)
  | false => (match P.underlying t with
   | some (.int _) => (match u, v with
    | .int k a, .int k' b => (match decide (k = k') with
      | true => (match op with
        | .add => K (.int k (iAdd k a b)) w
        | .sub => K (.int k (iSub k a b)) w
        | .mul => K (.int k (iMul k a b)) w
        | .quo => nz b ∧ K (.int k (iQuo k a b)) w
        | .rem => nz b ∧ K (.int k (iRem a b)) w
        | .and => K (.int k (bAnd k a b)) w
        | .or => K (.int k (bOr k a b)) w
        | .xor => K (.int k (bXor k a b)) w
        | .andNot => K (.int k (bAndnot k a b)) w
        | .shl => nng b ∧ K (.int k (iShl k a b)) w
        | .shr => nng b ∧ K (.int k (iShr k a b)) w
        | .eql => K (.bool (iEq a b)) w
        | .neq => K (.bool (iNe a b)) w
        | .lss => K (.bool (iLt a b)) w
        | .leq => K (.bool (iLe a b)) w
        | .gtr => K (.bool (iGt a b)) w
        | .geq => K (.bool (iGe a b)) w)
      | false => (match op with
        | .shl => nng b ∧ K (.int k (iShl k a b)) w
        | .shr => nng b ∧ K (.int k (iShr k a b)) w
        | _ => False))
    | u, v => vcDef P ty op t x y u v w K X)
   | some .string => (match u, v with
    | .string a, .string b => (match op with
      | .add => catOk a b ∧ K (.string (cat a b)) w
      | .eql => K (.bool (sEq a b)) w
      | .neq => K (.bool (sNe a b)) w
      | .lss => K (.bool (sLt a b)) w
      | .leq => K (.bool (sLe a b)) w
      | .gtr => K (.bool (sGt a b)) w
      | .geq => K (.bool (sGe a b)) w
      | _ => False)
    | u, v => vcDef P ty op t x y u v w K X)
   | _ => vcDef P ty op t x y u v w K X)

def isStrConv (P : Program) (s d : TypeId) : Bool := match P.underlying s, P.underlying d with
  | some (.slice _), _ | _, some (.slice _) | some .unsafePointer, _ | _, some .unsafePointer | some (.float _), _ | _, some (.float _) => true
  | some (.int _), some .string => true
  | _, _ => false

def opvc (P : Program) (o : Oper) (e : Env) (w : World) (K : Value → World → Prop) (X : List PanicEntry → World → Prop) : Prop :=
  match o.op with
  | .move x | .assign x => K (e.ev x) w
  | .pick c a b => asB (e.ev c) fun t => K (bif t then e.ev a else e.ev b) w
  | .alloc t => (match P.info? t with
    | some i => (match i.zero with | some z => al w (.cells z.cells t) fun b w1 => K (.pointer (some ⟨b, 0, none⟩)) w1 | none => False)
    | none => False)
  | .box t x => (match isAggT P t with
    | true => al w (.cells (e.ev x).cells t) fun b w1 => K (.pointer (some ⟨b, 0, none⟩)) w1
    | false => oc (e.ev x).oneCell' (al w (.cells #[e.ev x] t) fun b w1 => K (.pointer (some ⟨b, 0, none⟩)) w1))
  | .build t ps => (match P.underlying t, P.info? t with
    | some (.struct fs), some i => (match i.zero with
      | some z => (match fs.toList.all fun f => (P.info? f.type).isSome with
        | true => fillV (fldAt P fs.toList) z.cells.toList (parts e ps.toList) fun cs => K (.agg cs.toArray) w
        | false => False)
      | none => False)
    | _, _ => upon P K X ((execOp e.ev o).run P w))
  | .buildSlice t n ps => (match P.underlying t with
    | some (.slice el) => (match P.info? el with
      | some i => (match i.zero, Nat.ble (n * i.size) 16777216 with
        | some z, true => (match Nat.beq z.cells.size i.size with | false => False | true => (match Instr.fill (fun j => some (j * i.size, i.size)) (reps z.cells.toList (n * i.size)).toArray (parts e ps.toList) with
          | some cs => al w (.cells cs el) fun b w1 => K (.slice (some ⟨b, 0, none⟩) n n) w1
          | none => False))
        | _, _ => False)
      | none => False)
    | _ => False)
  | .load t x => (match e.ev x, tySh P t, P.info? t with
    | .pointer (some a), some (.leaf l), some _ => ld w a fun v => asLeaf l v fun v' => K v' w
    | .pointer (some a), some (.agg ls), some i => (match Nat.beq ls.length i.size with | true => ldLeaves w a 0 ls fun vs => K (.agg vs.toArray) w | false => False)
    | _, _, _ => False)
  | .store t x y => (match e.ev x, P.info? t with
    | .pointer (some a), some i => (match isAggT P t with
      | true => (match Nat.beq (e.ev y).cells.size i.size with
        | true => ocAll (e.ev y).cells.toList (st w a (e.ev y).cells.toList fun w1 => K undef w1)
        | false => False)
      | false => (match Nat.beq i.size 1 with
        | true => oc (e.ev y).oneCell' (st w a [e.ev y] fun w1 => K undef w1)
        | false => False))
    | _, _ => False)
  | .nilCheck x => (match e.ev x with
    | .pointer p => nn p fun a => K (.pointer (some a)) w
    | _ => upon P K X ((execOp e.ev o).run P w))
  | .binOp op t x y _ => vcBin P o.type op t x y (e.ev x) (e.ev y) w K X
  | .unOp .neg _ x => (match e.ev x with
    | .int k n => K (.int k (iSub k 0 n)) w
    | _ => upon P K X ((execOp e.ev o).run P w))
  | .fieldAddr s x f => (match P.underlying s, e.ev x with
    | some (.struct fs), .pointer (some a) => (match fs[f]? with
      | some fd => (match P.info? fd.type with
        | some i => (match Nat.beq i.size 0 with | true => False | false => K (.pointer (some (a.add fd.offset))) w)
        | none => False)
      | none => False)
    | _, _ => False)
  | .extract x i => (match e.ev x with | .tuple vs => (match vs[i]? with | some v => asT P o.type v fun v' => K v' w | none => False) | _ => False)
  | .makeFunc fn a b => K (.func fn (evs e a.toList).toArray (evs e b.toList).toArray) w
  | .makeInterface t x => (match P.underlying t with | some (.interface _) => False | some _ => K (.iface t (e.ev x)) w | none => False)
  | .convert s d x => (match isStrConv P s d with
    | true => runV P (convert s d (e.ev x)) w (fun v w1 => asT P o.type v fun v' => K v' w1) X
    | false => upon P K X ((execOp e.ev o).run P w))
  | .indexAddr t x i => (match P.underlying t, e.ev x, e.ev i with
    | some (.slice el), .slice b l _, .int _ n => (match P.info? el with
      | some inf => inB n l ∧ nn b fun a => ∀ d, d = a.add (scale n.toNat inf.size) → K (.pointer (some d)) w
      | none => False)
    | some (.array len el), .pointer (some a), .int _ n => (match P.info? el with
      | some inf => inB n len ∧ ∀ d, d = a.add (scale n.toNat inf.size) → K (.pointer (some d)) w
      | none => False)
    | _, _, _ => False)
  | .index t x i => (match P.underlying t, e.ev x, e.ev i with
    | some .string, .string s, .int _ n => inB n s.size ∧ K (.int .u8 (bt s n)) w
    | some (.array len el), .agg cs, .int _ n => (match P.info? el with
      | some inf => inB n len ∧ partV P el cs (scale n.toNat inf.size) fun v => K v w
      | none => False)
    | _, _, _ => False)
  | .slice t x lo hi mx => (match mx, P.underlying t, e.ev x with
    | none, some .string, .string s => cutB s.size s.size (mapO e lo) (mapO e hi) fun l h => K (.string (cutS s l h)) w
    | none, some (.slice el), .slice a len cap => (match P.info? el with
      | some inf => cutB len cap (mapO e lo) (mapO e hi) fun l h => K (.slice (match lo with | none => a | some _ => slA a l cap inf.size) (sb h l) (sb cap l)) w
      | none => False)
    | none, some (.array n el), .pointer (some a) => (match P.info? el with
      | some inf => cutB n n (mapO e lo) (mapO e hi) fun l h => K (.slice (match lo with | none => some a | some _ => slA (some a) l n inf.size) (sb h l) (sb n l)) w
      | none => False)
    | _, _, _ => runV P (Instr.sliceAt t (e.ev x) (lo.map e.ev) (hi.map e.ev) (mx.map e.ev)) w K X)
  | .makeMap t r => runV P (Instr.makeMap t (mapO e r)) w (fun v w1 => asT P o.type v fun v' => K v' w1) X
  | .makeSlice t l c => runV P (Instr.makeSlice t (e.ev l) (e.ev c)) w (fun v w1 => asT P o.type v fun v' => K v' w1) X
  | .lookup t x i ok => runV P (Instr.lookup t (e.ev x) (e.ev i) ok) w (fun v w1 => asT P o.type v fun v' => K v' w1) X
  | .mapUpdate t m k x | .insert t m k x => runU P (Instr.mapUpdate t (e.ev m) (e.ev k) (e.ev x)) w (fun w1 => K undef w1) X
  | .mapEntry t m k => runV P (Instr.mapEntry t (e.ev m) (e.ev k)) w (fun v w1 => K v w1) X
  | .entryStore t m s x => runU P (Instr.entryStore t (e.ev m) (e.ev s) (e.ev x)) w (fun w1 => K undef w1) X
  | .range t x => runV P (Instr.range t (e.ev x)) w K X
  | .panic x => runV P (Instr.panic (e.ev x)) w K X
  | .next it b => runV P (Instr.next (e.ev it) b o.type) w (fun v w1 => match b with
    | true => nxt v (fun x y => asI .i64 x fun i => asI .i32 y fun r => K (.tuple #[.bool true, .int .i64 i, .int .i32 r]) w1) (K (.tuple #[.bool false]) w1)
    | false => nxt v (fun x y => K (.tuple #[.bool true, x, y]) w1) (K (.tuple #[.bool false]) w1)) X
  | .typeAssert x t a ok => runV P (Instr.typeAssert (e.ev x) t a ok) w (fun v w1 => asT P o.type v fun v' => K v' w1) X
  | .call c => (match c.callee with
    | .value (.func f) => (match P.funcs[f]? with
      | some fn => (match fn.body with
        | some _ => call P f (evs e c.args.toList) w (fun v w1 => asT P o.type v fun v' => K v' w1) X
        | none => callX P f (evs e c.args.toList) w (fun v w1 => asT P o.type v fun v' => K v' w1) X)
      | none => False)
    | .value x => callV P (e.ev x) (evs e c.args.toList) w (fun v w1 => asT P o.type v fun v' => K v' w1) X
    | .invoke r name => callI P (e.ev r) name (evs e c.args.toList) w (fun v w1 => asT P o.type v fun v' => K v' w1) X
    | .builtin .len => (match evs e c.args.toList with
      | [.map r] => runV P (Builtin.len_ c.argTypes o.type #[.map r]) w (fun v w1 => asT P o.type v fun v' => K v' w1) X
      | [.string s] => (match (c.argTypes[0]?).bind P.underlying with | some .string => K (.int .i64 (lenN s.size)) w | _ => False)
      | [.slice _ l _] => (match (c.argTypes[0]?).bind P.underlying with | some (.slice _) => K (.int .i64 (lenN l)) w | _ => False)
      | _ => upon P K X ((execOp e.ev o).run P w))
    | .builtin .cap => (match evs e c.args.toList with
      | [.slice _ _ n] => (match (c.argTypes[0]?).bind P.underlying with | some (.slice _) => K (.int .i64 (lenN n)) w | _ => False)
      | _ => upon P K X ((execOp e.ev o).run P w))
    | .builtin .append => runV P (Builtin.append_ c.argTypes o.type (evs e c.args.toList).toArray) w (fun v w1 => asT P o.type v fun v' => K v' w1) X
    | .builtin .copy => runV P (Builtin.copy_ c.argTypes o.type (evs e c.args.toList).toArray) w (fun v w1 => asT P o.type v fun v' => K v' w1) X
    | .builtin .delete => runV P (Builtin.delete_ c.argTypes o.type (evs e c.args.toList).toArray) w K X
    | .builtin .min => runV P (Builtin.min_ c.argTypes o.type (evs e c.args.toList).toArray) w (fun v w1 => asT P o.type v fun v' => K v' w1) X
    | .builtin .max => runV P (Builtin.max_ c.argTypes o.type (evs e c.args.toList).toArray) w (fun v w1 => asT P o.type v fun v' => K v' w1) X
    | _ => upon P K X ((execOp e.ev o).run P w))
  | _ => upon P K X ((execOp e.ev o).run P w)

/-- how a region's operations are gone through: 'lt': an operation that yields the same whenever it is run; 'op': one that acts, or is waited for; what 'keep' names reads behind it as before -/
inductive RI where
  | nil
  | lt (i : Nat) (k : RI)
  | op (i : Nat) (keep : List Nat) (k : RI)
  | split (s : Nat) (body : RI) (W : Nat) (L : List (Nat × Sh)) (k : RI)
  | alt (a b : RI)

def shs : List (Nat × Sh) → List Sh
  | [] => []
  | (_, s) :: r => s :: shs r
def gets (e : Env) : List (Nat × Sh) → List Value
  | [] => []
  | (t, _) :: r => e t :: gets e r
def puts (e : Env) : List (Nat × Sh) → List Value → Env
  | (t, _) :: r, v :: vs => puts (e.set t v) r vs
  | _, _ => e
/-- what W names is forgotten -/
def havoc (W : Nat) (e₀ e : Env) : Env := fun t => bif W.testBit t then e₀ t else e t
/-- where ways meet again: R behind, M ahead -/
def meet (W : Nat) (L : List (Nat × Sh)) (e : Env) (R : Env → World → Prop) (M : (List Value → World → Prop) → Prop) : Prop :=
  ∀ K : List Value → World → Prop, (allShs (shs L) fun vs => ∀ w, (∀ e₀ : Env, R (puts (havoc W e₀ e) L vs) w) → K vs w) → M K
/-- rounds -/
def rounds (W : Nat) (L : List (Nat × Sh)) (e : Env) (B : (List Value → World → Prop) → Env → World → Prop) (w : World) : Prop :=
  ∀ K : List Value → World → Prop, (allShs (shs L) fun vs => ∀ w, (∀ e₀ : Env, B K (puts (havoc W e₀ e) L vs) w) → K vs w) → K (gets e L) w
def onB (v : Value) (T F : Prop) : Prop := match v with | .bool b => cnd b T F | _ => False

def steady (w : World) (a : Addr) : Nat → List Value → Prop → Prop
  | _, [], G => G
  | i, v :: r, G => w.cell? (a.add i) = some v ∧ steady w a (i + 1) r G
def guardV (ops : Array Oper) (o : Oper) (e : Env) (run skip : Prop) : Prop := match o.guard with
  | none => run
  | some (j, want) => (match (ops[j]?).bind (·.dst) with
    | some d => (match e d with
      | .bool b => (match b, want with | true, true => run | false, false => run | true, false => skip | false, true => skip)
      | _ => skip)
    | none => skip)

/-- a value was read at an operation: it would be read again -/
def again (P : Program) (o : Oper) (e : Env) (w : World) (G : Prop) : Prop := match o.op, o.dst with
  | .load t x, some d => (match e.ev x, tySh P t, P.info? t, e d with
    | .pointer (some a), some (.leaf _), some _, v => w.cell? a = some v ∧ G
    | .pointer (some a), some (.agg _), some i, .agg vs => (match Nat.beq vs.size i.size with | true => steady w a 0 vs.toList G | false => False)
    | _, _, _, _ => False)
  | _, _ => False
def keepAll (P : Program) (ops : Array Oper) (e : Env) (w : World) : List Nat → Prop → Prop
  | [], G => G
  | i :: r, G => (match ops[i]? with
    | some o => guardV ops o e (again P o e w (keepAll P ops e w r G)) (keepAll P ops e w r G)
    | none => False)
/-- does it yield the same whenever it is run, or read memory alone? -/
def lightOk (P : Program) (o : Oper) (e : Env) : Bool := match o.op with
  | .move _ | .assign _ | .pick .. | .load .. | .indexAddr .. | .unOp .. | .extract .. | .makeFunc .. | .fieldAddr .. | .makeInterface .. | .build .. | .field .. => true
  | .index t x _ => (match P.underlying t, e.ev x with | some .string, .string _ => true | _, _ => false)
  | .nilCheck x => (match e.ev x with | .pointer _ => true | _ => false)
  | .slice _ _ _ _ none => true
  | .binOp op _ x y _ => (match nilC y with
    | true => (match op with | .eql | .neq => true | _ => false)
    | false => (match e.ev x, e.ev y with
      | .int .., .int .. => true
      | .string .., .string .. => true
      | .float .., .float .. => (match op with | .lss | .leq | .gtr | .geq | .eql | .neq => true | _ => false)
      | .bool _, .bool _ => (match op with | .eql | .neq => true | _ => false)
      | _, _ => false))
  | .convert s d x => (match isStrConv P s d with | true => false | false => (match P.underlying s, P.underlying d, e.ev x with | some _, some (.int _), .int .. => true | _, _, _ => false))
  | .call c => (match c.callee with | .builtin .len => (match evs e c.args.toList with | [.slice ..] | [.string _] => true | _ => false) | .builtin .cap => (match evs e c.args.toList with | [.slice ..] => true | _ => false) | _ => false)
  | _ => false

def vcR (P : Program) (ops : Array Oper) (X : List PanicEntry → World → Prop) : RI → Env → World → (Env → World → Prop) → Prop
  | .nil, e, w, K => K e w
  | .lt i k, e, w, K => (match ops[i]? with
    | none => False
    | some o => guardV ops o e
      (match lightOk P o e with
        | true => opvc P o e w (fun v w' => vcR P ops X k (e.put o.dst v) w' K) (fun _ _ => False)
        | false => False)
      (vcR P ops X k (e.put o.dst undef) w K))
  | .op i keep k, e, w, K => (match ops[i]? with
    | none => False
    | some o => guardV ops o e
      (opvc P o e w (fun v w' => keepAll P ops (e.put o.dst v) w' keep (vcR P ops X k (e.put o.dst v) w' K)) X)
      (vcR P ops X k (e.put o.dst undef) w K))
  | .split s body W L k, e, w, K => (match e s with
    | .bool b => meet W L e (fun e' w' => vcR P ops X k e' w' K) fun K' =>
      cnd b (vcR P ops X body (e.set s (.bool true)) w fun e' w' => K' (gets e' L) w')
        (vcR P ops X body (e.set s (.bool false)) w fun e' w' => K' (gets e' L) w')
    | _ => vcR P ops X body e w fun e' w' => vcR P ops X k e' w' K)
  | .alt a b, e, w, K => vcR P ops X a e w K ∧ vcR P ops X b e w K

inductive Ann where
  | leaf
  | reg (r : RI)
  | seq (a b : Ann)
  | seqJ (W : Nat) (L : List (Nat × Sh)) (a b : Ann)
  | cond (a b : Ann)
  | blk (a : Ann)
  | loop (W : Nat) (L : List (Nat × Sh)) (a : Ann)

abbrev Post := Exit → Env → World → Prop
def thn (J : Env → World → Prop) (Q : Post) : Post
  | .normal, e, w => J e w
  | x, e, w => Q x e w
def inBlk (id : Nat) (Q : Post) : Post
  | .exit i, e, w => (match Nat.beq i id with | true => Q .normal e w | false => Q (.exit i) e w)
  | x, e, w => Q x e w
def inScp (Q : Post) : Post
  | .goto _, _, _ => False
  | x, e, w => Q x e w

def vc (P : Program) : Ann → Code → Post → Env → World → Prop
  | .leaf, .skip, Q, e, w => Q .normal e w
  | .leaf, .label _, Q, e, w => Q .normal e w
  | .leaf, .exit id, Q, e, w => Q (.exit id) e w
  | .leaf, .ret, Q, e, w => Q .ret e w
  | .reg r, .region _ ops false, Q, e, w => vcR P ops (fun c w => Q (.panic c) e w) r e w fun e' w' => Q .normal e' w'
  | .reg r, .region _ ops true, Q, e, w => ∀ w1, w1 = w.drew → vcR P ops (fun c w => Q (.panic c) e w) r e w1 fun e' w' => Q .normal e' w'
  | .seq a b, .seq c d, Q, e, w => vc P a c (thn (vc P b d Q) Q) e w
  | .seqJ W L a b, .seq c d, Q, e, w => meet W L e (vc P b d Q) fun K => vc P a c (thn (fun e' w' => K (gets e' L) w') Q) e w
  | .cond a b, .cond x c d, Q, e, w => onB (e.ev x) (vc P a c Q e w) (vc P b d Q e w)
  | .blk a, .block id c, Q, e, w => vc P a c (inBlk id Q) e w
  | .blk a, .scope c, Q, e, w => vc P a c (inScp Q) e w
  | .loop W L a, .loop c, Q, e, w => rounds W L e (fun K e' w' => vc P a c (thn (fun e'' w'' => K (gets e'' L) w'') Q) e' w') w
  | _, _, _, _, _ => False

/-- a function's results -/
def resV (P : Program) (w : World) (e : Env) : List ResultVar → (List Value → Prop) → Prop
  | [], K => K []
  | .tmp t :: r, K => resV P w e r fun vs => K (e t :: vs)
  | .cell a t :: r, K => (match e a, tySh P t, P.info? t with
    | .pointer (some a), some (.leaf l), some _ => ld w a fun v => asLeaf l v fun v' => resV P w e r fun vs => K (v' :: vs)
    | .pointer (some a), some (.agg ls), some i => (match Nat.beq ls.length i.size with | true => ldLeaves w a 0 ls fun vs' => resV P w e r fun vs => K (.agg vs'.toArray :: vs) | false => False)
    | _, _, _ => False)
def retV : List Value → Value
  | [v] => v
  | vs => .tuple vs.toArray
def retQ (P : Program) (fn : Func) (K : Value → World → Prop) (X : List PanicEntry → World → Prop) : Post
  | .normal, e, w | .ret, e, w => resV P w e fn.results.toList fun vs => K (retV vs) w
  | .panic c, _, w => X c w
  | _, _, _ => False
/-- the temporaries at a function's beginning -/
def argE (args : List Value) : Env := fun t => args.getD t undef
end Go.Vc
