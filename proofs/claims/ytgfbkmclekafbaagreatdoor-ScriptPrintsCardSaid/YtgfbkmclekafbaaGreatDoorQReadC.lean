/- Readings of functions of the program, printed by gen.py out of the translation: each with the proof that it gives the call. -/
import Derived.Test.YtgfbkmclekafbaaGreatDoorQBase
set_option linter.unusedVariables false
set_option linter.unusedSimpArgs false
set_option linter.unnecessarySimpa false
set_option maxRecDepth 100000
namespace Go.Proofs.YtgfbkmclekafbaaGreatDoor
open Go Go.Vc

/-- strconv.ParseInt -/
def strconv_ParseInt.ann : Ann := .seq (.reg (.op 0 [] (.op 1 [] .nil))) (.seq (.reg (.op 0 [] (.op 1 [] (.op 2 [] (.op 3 [] (.op 4 [] (.op 5 [] (.op 6 [] (.op 7 [] (.op 8 [] .nil)))))))))) (.seq (.seq (.reg (.op 0 [] (.op 1 [] .nil))) (.cond (.seq (.reg (.op 0 [] (.op 1 [] (.op 2 [] (.op 3 [] (.op 4 [] (.op 5 [] (.op 6 [] (.op 7 [] .nil))))))))) .leaf) .leaf)) (.seq (.reg (.op 0 [] (.op 1 [] (.op 2 [] .nil)))) .leaf)))
def strconv_ParseInt.F (a0 : ByteArray) (a1 : Int) (a2 : Int) (w : World) (K : Value → World → Prop) (X : List PanicEntry → World → Prop) : Prop :=
 call P 84 [.string a0, .int .i64 a1, .int .i64 a2] w (fun v1 w1 =>
 tuN 2 v1 (fun v2 v3 => show Prop from
 asI .i64 v2 fun n1 =>
 ifOk v3 = true ∧
 cnd (nb true (nilI v3)) (
 call P 85 [.string (bs [80, 97, 114, 115, 101, 73, 110, 116]), .string a0, .int .i64 a1, .int .i64 a2, v3] w1 (fun v4 w2 =>
 K (.tuple #[.int .i64 n1, v4]) w2) X) (
 K (.tuple #[.int .i64 n1, .nilIface]) w1))) X
theorem strconv_ParseInt.ok : annOk Tryz.f64 strconv_ParseInt.ann (Tryz.f64.body.getD .skip) 3 = true := by kernel_rfl
theorem strconv_ParseInt.eq {a0 : ByteArray} {a1 : Int} {a2 : Int} {w : World} {K : Value → World → Prop} {X : List PanicEntry → World → Prop} : strconv_ParseInt.F a0 a1 a2 w K X = vc P strconv_ParseInt.ann (Tryz.f64.body.getD .skip) (retQ P Tryz.f64 K X) (argE [.string a0, .int .i64 a1, .int .i64 a2]) w := by kernel_rfl
theorem strconv_ParseInt.call {a0 : ByteArray} {a1 : Int} {a2 : Int} {w : World} {K : Value → World → Prop} {X : List PanicEntry → World → Prop} (h : strconv_ParseInt.F a0 a1 a2 w K X) : call P 64 [.string a0, .int .i64 a1, .int .i64 a2] w K X :=
  call_of good Tryz.func64 (c := (Tryz.f64.body.getD .skip)) (by kernel_rfl) strconv_ParseInt.ann strconv_ParseInt.ok (Eq.mp strconv_ParseInt.eq h)

/-- strconv.ParseUint -/
def strconv_ParseUint.ann : Ann := .seq (.reg (.op 0 [] (.op 1 [] .nil))) (.seq (.reg (.op 0 [] (.op 1 [] (.op 2 [] (.op 3 [] (.op 4 [] (.op 5 [] (.op 6 [] (.op 7 [] (.op 8 [] .nil)))))))))) (.seq (.seq (.reg (.op 0 [] (.op 1 [] .nil))) (.cond (.seq (.reg (.op 0 [] (.op 1 [] (.op 2 [] (.op 3 [] (.op 4 [] (.op 5 [] (.op 6 [] (.op 7 [] .nil))))))))) .leaf) .leaf)) (.seq (.reg (.op 0 [] (.op 1 [] (.op 2 [] .nil)))) .leaf)))
def strconv_ParseUint.F (a0 : ByteArray) (a1 : Int) (a2 : Int) (w : World) (K : Value → World → Prop) (X : List PanicEntry → World → Prop) : Prop :=
 call P 93 [.string a0, .int .i64 a1, .int .i64 a2] w (fun v1 w1 =>
 tuN 2 v1 (fun v2 v3 => show Prop from
 asI .u64 v2 fun n1 =>
 ifOk v3 = true ∧
 cnd (nb true (nilI v3)) (
 call P 85 [.string (bs [80, 97, 114, 115, 101, 85, 105, 110, 116]), .string a0, .int .i64 a1, .int .i64 a2, v3] w1 (fun v4 w2 =>
 K (.tuple #[.int .u64 n1, v4]) w2) X) (
 K (.tuple #[.int .u64 n1, .nilIface]) w1))) X
theorem strconv_ParseUint.ok : annOk Tryz.f66 strconv_ParseUint.ann (Tryz.f66.body.getD .skip) 3 = true := by kernel_rfl
theorem strconv_ParseUint.eq {a0 : ByteArray} {a1 : Int} {a2 : Int} {w : World} {K : Value → World → Prop} {X : List PanicEntry → World → Prop} : strconv_ParseUint.F a0 a1 a2 w K X = vc P strconv_ParseUint.ann (Tryz.f66.body.getD .skip) (retQ P Tryz.f66 K X) (argE [.string a0, .int .i64 a1, .int .i64 a2]) w := by kernel_rfl
theorem strconv_ParseUint.call {a0 : ByteArray} {a1 : Int} {a2 : Int} {w : World} {K : Value → World → Prop} {X : List PanicEntry → World → Prop} (h : strconv_ParseUint.F a0 a1 a2 w K X) : call P 66 [.string a0, .int .i64 a1, .int .i64 a2] w K X :=
  call_of good Tryz.func66 (c := (Tryz.f66.body.getD .skip)) (by kernel_rfl) strconv_ParseUint.ann strconv_ParseUint.ok (Eq.mp strconv_ParseUint.eq h)

/-- reprise/script.key -/
def script_key.ann : Ann := .seq (.reg (.op 0 [] .nil)) (.seq (.reg (.op 0 [] (.op 1 [] (.op 2 [] (.op 3 [] (.op 4 [] (.op 5 [] (.op 6 [] .nil)))))))) (.seq (.reg (.op 0 [] (.op 1 [] (.op 2 [] (.split 12 (.op 3 [] (.op 4 [] (.op 5 [] (.op 6 [] (.op 7 [] .nil))))) 253952 [(17, .leaf (.bool))] (.op 8 [] .nil)))))) (.seq (.reg (.op 0 [] (.op 1 [] .nil))) .leaf)))
def script_key.F (a0 : ByteArray) (w : World) (K : Value → World → Prop) (X : List PanicEntry → World → Prop) : Prop :=
 call P 66 [.string a0, .int .i64 10, .int .i64 64] w (fun v1 w1 =>
 tuN 2 v1 (fun v2 v3 => show Prop from
 asI .u64 v2 fun n1 =>
 ifOk v3 = true ∧
 ∀ K1 : List Value → World → Prop, (∀ b1 w2, (∀ _ : Env,
 call P 30 [.bool b1, .int .i64 211] w2 (fun v4 w3 =>
 tuN 0 v4 (K (.int .u64 n1) w3)) X) → K1 [.bool b1] w2) →
 cnd (nb false (nilI v3)) (
 call P 35 [.int .u64 n1, .int .i64 10] w1 (fun v5 w4 =>
 asS v5 fun s1 =>
 K1 [.bool (sEq s1 a0)] w4) X) (
 K1 [.bool false] w1))) X
theorem script_key.ok : annOk Tryz.f68 script_key.ann (Tryz.f68.body.getD .skip) 1 = true := by kernel_rfl
theorem script_key.eq {a0 : ByteArray} {w : World} {K : Value → World → Prop} {X : List PanicEntry → World → Prop} : script_key.F a0 w K X = vc P script_key.ann (Tryz.f68.body.getD .skip) (retQ P Tryz.f68 K X) (argE [.string a0]) w := by kernel_rfl
theorem script_key.call {a0 : ByteArray} {w : World} {K : Value → World → Prop} {X : List PanicEntry → World → Prop} (h : script_key.F a0 w K X) : call P 68 [.string a0] w K X :=
  call_of good Tryz.func68 (c := (Tryz.f68.body.getD .skip)) (by kernel_rfl) script_key.ann script_key.ok (Eq.mp script_key.eq h)

/-- internal/strconv.isPowerOfTwo -/
def strconv_isPowerOfTwo.ann : Ann := .seq (.reg (.op 0 [] .nil)) (.seq (.reg (.op 0 [] (.op 1 [] (.op 2 [] (.op 3 [] (.op 4 [] (.op 5 [] .nil))))))) .leaf)
def strconv_isPowerOfTwo.F (a0 : Int) (w : World) (K : Value → World → Prop) (X : List PanicEntry → World → Prop) : Prop :=
 K (.bool (iEq (bAnd .i64 a0 (iSub .i64 a0 1)) 0)) w
theorem strconv_isPowerOfTwo.ok : annOk Tryz.f72 strconv_isPowerOfTwo.ann (Tryz.f72.body.getD .skip) 1 = true := by kernel_rfl
theorem strconv_isPowerOfTwo.eq {a0 : Int} {w : World} {K : Value → World → Prop} {X : List PanicEntry → World → Prop} : strconv_isPowerOfTwo.F a0 w K X = vc P strconv_isPowerOfTwo.ann (Tryz.f72.body.getD .skip) (retQ P Tryz.f72 K X) (argE [.int .i64 a0]) w := by kernel_rfl
theorem strconv_isPowerOfTwo.call {a0 : Int} {w : World} {K : Value → World → Prop} {X : List PanicEntry → World → Prop} (h : strconv_isPowerOfTwo.F a0 w K X) : call P 72 [.int .i64 a0] w K X :=
  call_of good Tryz.func72 (c := (Tryz.f72.body.getD .skip)) (by kernel_rfl) strconv_isPowerOfTwo.ann strconv_isPowerOfTwo.ok (Eq.mp strconv_isPowerOfTwo.eq h)

/-- math/bits.TrailingZeros -/
def bits_TrailingZeros.ann : Ann := .seq (.reg (.op 0 [] .nil)) (.seq (.cond (.seq (.reg (.op 0 [] (.op 1 [] (.op 2 [] (.op 3 [] .nil))))) .leaf) .leaf) (.seq (.reg (.op 0 [] (.op 1 [] (.op 2 [] .nil)))) .leaf))
def bits_TrailingZeros.F (a0 : Int) (w : World) (K : Value → World → Prop) (X : List PanicEntry → World → Prop) : Prop :=
 call P 95 [.int .u64 a0] w (fun v1 w1 =>
 asI .i64 v1 fun n1 =>
 K (.int .i64 n1) w1) X
theorem bits_TrailingZeros.ok : annOk Tryz.f73 bits_TrailingZeros.ann (Tryz.f73.body.getD .skip) 1 = true := by kernel_rfl
theorem bits_TrailingZeros.eq {a0 : Int} {w : World} {K : Value → World → Prop} {X : List PanicEntry → World → Prop} : bits_TrailingZeros.F a0 w K X = vc P bits_TrailingZeros.ann (Tryz.f73.body.getD .skip) (retQ P Tryz.f73 K X) (argE [.int .u64 a0]) w := by kernel_rfl
theorem bits_TrailingZeros.call {a0 : Int} {w : World} {K : Value → World → Prop} {X : List PanicEntry → World → Prop} (h : bits_TrailingZeros.F a0 w K X) : call P 73 [.int .u64 a0] w K X :=
  call_of good Tryz.func73 (c := (Tryz.f73.body.getD .skip)) (by kernel_rfl) bits_TrailingZeros.ann bits_TrailingZeros.ok (Eq.mp bits_TrailingZeros.eq h)

/-- internal/strconv.ParseInt -/
def strconv_ParseInt_.ann : Ann := .seq (.reg (.op 0 [] (.op 1 [] .nil))) (.seq (.seq (.reg (.op 0 [] (.op 1 [] .nil))) (.cond (.seq (.reg (.op 0 [] (.op 1 [] (.op 2 [] .nil)))) .leaf) .leaf)) (.seq (.reg (.op 0 [] .nil)) (.seqJ 33521921 [(0, .leaf (.str)), (8, .leaf (.bool))] (.seq (.reg (.op 0 [] (.op 1 [] .nil))) (.blk (.seq (.reg (.op 0 [] (.op 1 [] .nil))) (.cond (.reg (.op 0 [] (.op 1 [] (.op 2 [] .nil)))) (.seq (.reg (.op 0 [] (.op 1 [] .nil))) (.cond (.seq (.reg (.op 0 [] (.op 1 [] (.op 2 [] .nil)))) (.reg (.op 0 [] .nil))) .leaf)))))) (.seq (.reg (.op 0 [] .nil)) (.seq (.reg (.op 0 [] (.op 1 [] (.op 2 [] (.op 3 [] (.op 4 [] (.op 5 [] (.op 6 [] (.op 7 [] (.op 8 [] .nil)))))))))) (.seq (.seq (.reg (.op 0 [] (.op 1 [] (.op 2 [] (.split 34 (.op 3 [] (.op 4 [] (.op 5 [] (.op 6 [] .nil)))) 515396075520 [(38, .leaf (.bool))] .nil))))) (.cond (.seq (.reg (.op 0 [] (.op 1 [] (.op 2 [] .nil)))) .leaf) .leaf)) (.seqJ 3298534883332 [(2, .leaf (.int .i64))] (.seq (.reg (.op 0 [] (.op 1 [] .nil))) (.cond (.reg (.op 0 [] .nil)) .leaf)) (.seq (.reg (.op 0 [] (.op 1 [] (.op 2 [] (.op 3 [] (.op 4 [] .nil)))))) (.seq (.seq (.reg (.op 0 [] (.op 1 [] (.op 2 [] (.split 48 (.op 3 [] (.op 4 [] (.op 5 [] (.op 6 [] .nil)))) 8444249301319680 [(52, .leaf (.bool))] .nil))))) (.cond (.seq (.reg (.op 0 [] (.op 1 [] (.op 2 [] (.op 3 [] (.op 4 [] (.op 5 [] .nil))))))) .leaf) .leaf)) (.seq (.seq (.reg (.op 0 [] (.op 1 [] (.split 58 (.op 2 [] (.op 3 [] (.op 4 [] (.op 5 [] .nil)))) 8646911284551352320 [(62, .leaf (.bool))] .nil)))) (.cond (.seq (.reg (.op 0 [] (.op 1 [] (.op 2 [] (.op 3 [] (.op 4 [] (.op 5 [] .nil))))))) .leaf) .leaf)) (.seq (.reg (.op 0 [] (.op 1 [] (.op 2 [] .nil)))) (.seq (.seq (.reg (.op 0 [] .nil)) (.cond (.reg (.op 0 [] (.op 1 [] (.op 2 [] .nil)))) .leaf)) (.seq (.reg (.op 0 [] (.op 1 [] (.op 2 [] .nil)))) .leaf)))))))))))))
def strconv_ParseInt_.F (a0 : ByteArray) (a1 : Int) (a2 : Int) (w : World) (K : Value → World → Prop) (X : List PanicEntry → World → Prop) : Prop :=
 cnd (sEq a0 (bs [])) (
 K (.tuple #[.int .i64 0, .iface 156 (.int .i64 2)]) w) (
 ∀ K1 : List Value → World → Prop, (∀ s1 b1 w1, (∀ _ : Env,
 call P 93 [.string s1, .int .i64 a1, .int .i64 a2] w1 (fun v1 w2 =>
 tuN 2 v1 (fun v2 v3 => show Prop from
 asI .u64 v2 fun n1 =>
 ifOk v3 = true ∧
 ∀ K2 : List Value → World → Prop, (∀ b2 w3, (∀ _ : Env,
 cnd b2 (
 K (.tuple #[.int .i64 0, v3]) w3) (
 ∀ K3 : List Value → World → Prop, (∀ n2 w4, (∀ _ : Env,
 nng (IntKind.wrap .u64 (iSub .i64 n2 1)) ∧
 ∀ K4 : List Value → World → Prop, (∀ b3 w5, (∀ _ : Env,
 cnd b3 (
 K (.tuple #[.int .i64 (IntKind.wrap .i64 (iSub .u64 (iShl .u64 1 (IntKind.wrap .u64 (iSub .i64 n2 1))) 1)), .iface 156 (.int .i64 1)]) w5) (
 ∀ K5 : List Value → World → Prop, (∀ b4 w6, (∀ _ : Env,
 cnd b4 (
 K (.tuple #[.int .i64 (iSub .i64 0 (IntKind.wrap .i64 (iShl .u64 1 (IntKind.wrap .u64 (iSub .i64 n2 1))))), .iface 156 (.int .i64 1)]) w6) (
 cnd b1 (
 K (.tuple #[.int .i64 (iSub .i64 0 (IntKind.wrap .i64 (n1))), .nilIface]) w6) (
 K (.tuple #[.int .i64 (IntKind.wrap .i64 (n1)), .nilIface]) w6))) → K5 [.bool b4] w6) →
 cnd b1 (
 K5 [.bool (iGt n1 (iShl .u64 1 (IntKind.wrap .u64 (iSub .i64 n2 1))))] w5) (
 K5 [.bool false] w5))) → K4 [.bool b3] w5) →
 cnd (!b1) (
 K4 [.bool (iGe n1 (iShl .u64 1 (IntKind.wrap .u64 (iSub .i64 n2 1))))] w4) (
 K4 [.bool false] w4)) → K3 [.int .i64 n2] w4) →
 cnd (iEq a2 0) (
 K3 [.int .i64 64] w3) (
 K3 [.int .i64 a2] w3))) → K2 [.bool b2] w3) →
 cnd (nb true (nilI v3)) (
 runV P (do eqGuard .neq 54 (.tmp 35) (.tmp 36) (v3) (.iface 156 (.int .i64 1)); binOp .neq 54 (v3) (.iface 156 (.int .i64 1))) w2 (fun v4 w7 =>
 asB v4 fun b5 =>
 K2 [.bool b5] w7) X) (
 K2 [.bool false] w2))) X) → K1 [.string s1, .bool b1] w1) →
 inB 0 (ByteArray.size a0) ∧
 cnd (iEq (bt a0 0) 43) (
 inC 1 (ByteArray.size a0) ∧
 K1 [.string (cutS a0 (Int.toNat 1) (ByteArray.size a0)), .bool false] w) (
 cnd (iEq (bt a0 0) 45) (
 inC 1 (ByteArray.size a0) ∧
 K1 [.string (cutS a0 (Int.toNat 1) (ByteArray.size a0)), .bool true] w) (
 K1 [.string a0, .bool false] w)))
theorem strconv_ParseInt_.ok : annOk Tryz.f84 strconv_ParseInt_.ann (Tryz.f84.body.getD .skip) 3 = true := by kernel_rfl
theorem strconv_ParseInt_.eq {a0 : ByteArray} {a1 : Int} {a2 : Int} {w : World} {K : Value → World → Prop} {X : List PanicEntry → World → Prop} : strconv_ParseInt_.F a0 a1 a2 w K X = vc P strconv_ParseInt_.ann (Tryz.f84.body.getD .skip) (retQ P Tryz.f84 K X) (argE [.string a0, .int .i64 a1, .int .i64 a2]) w := by kernel_rfl
theorem strconv_ParseInt_.call {a0 : ByteArray} {a1 : Int} {a2 : Int} {w : World} {K : Value → World → Prop} {X : List PanicEntry → World → Prop} (h : strconv_ParseInt_.F a0 a1 a2 w K X) : call P 84 [.string a0, .int .i64 a1, .int .i64 a2] w K X :=
  call_of good Tryz.func84 (c := (Tryz.f84.body.getD .skip)) (by kernel_rfl) strconv_ParseInt_.ann strconv_ParseInt_.ok (Eq.mp strconv_ParseInt_.eq h)

/-- strconv.toError -/
def strconv_toError.ann : Ann := .seq (.reg (.op 0 [] .nil)) (.seq (.seq (.reg (.op 0 [] .nil)) (.blk (.seq (.reg (.op 0 [] (.op 1 [] (.op 2 [] .nil)))) (.cond (.seq (.reg (.op 0 [] (.op 1 [] (.op 2 [] (.op 3 [] (.op 4 [] .nil)))))) .leaf) (.seq (.reg (.op 0 [] (.op 1 [] (.op 2 [] .nil)))) (.cond (.seq (.reg (.op 0 [] (.op 1 [] (.op 2 [] (.op 3 [] (.op 4 [] .nil)))))) .leaf) (.seq (.reg (.op 0 [] (.op 1 [] (.op 2 [] .nil)))) (.cond (.seq (.reg (.op 0 [] (.op 1 [] (.op 2 [] (.op 3 [] (.op 4 [] (.op 5 [] .nil))))))) .leaf) (.seq (.reg (.op 0 [] (.op 1 [] (.op 2 [] .nil)))) (.cond (.seq (.reg (.op 0 [] (.op 1 [] (.op 2 [] (.op 3 [] (.op 4 [] (.op 5 [] .nil))))))) .leaf) .leaf)))))))))) (.seq (.reg (.op 0 [] (.op 1 [] .nil))) .leaf))
def strconv_toError.F (a0 : ByteArray) (a1 : ByteArray) (a2 : Int) (a3 : Int) (a4 : Value) (w : World) (K : Value → World → Prop) (X : List PanicEntry → World → Prop) : Prop :=
 runV P (do eqGuard .eql 54 (.tmp 11) (.tmp 13) (a4) (.iface 156 (.int .i64 2)); binOp .eql 54 (a4) (.iface 156 (.int .i64 2))) w (fun v1 w1 =>
 asB v1 fun b1 =>
 cnd b1 (
 call P 105 [.string a0, .string a1] w1 (fun v2 w2 =>
 asP v2 fun p1 =>
 K (.iface 157 (.pointer p1)) w2) X) (
 runV P (do eqGuard .eql 54 (.tmp 11) (.tmp 20) (a4) (.iface 156 (.int .i64 1)); binOp .eql 54 (a4) (.iface 156 (.int .i64 1))) w1 (fun v3 w3 =>
 asB v3 fun b2 =>
 cnd b2 (
 call P 106 [.string a0, .string a1] w3 (fun v4 w4 =>
 asP v4 fun p2 =>
 K (.iface 157 (.pointer p2)) w4) X) (
 runV P (do eqGuard .eql 54 (.tmp 11) (.tmp 27) (a4) (.iface 156 (.int .i64 3)); binOp .eql 54 (a4) (.iface 156 (.int .i64 3))) w3 (fun v5 w5 =>
 asB v5 fun b3 =>
 cnd b3 (
 call P 107 [.string a0, .string a1, .int .i64 a2] w5 (fun v6 w6 =>
 asP v6 fun p3 =>
 K (.iface 157 (.pointer p3)) w6) X) (
 runV P (do eqGuard .eql 54 (.tmp 11) (.tmp 35) (a4) (.iface 156 (.int .i64 4)); binOp .eql 54 (a4) (.iface 156 (.int .i64 4))) w5 (fun v7 w7 =>
 asB v7 fun b4 =>
 cnd b4 (
 call P 108 [.string a0, .string a1, .int .i64 a3] w7 (fun v8 w8 =>
 asP v8 fun p4 =>
 K (.iface 157 (.pointer p4)) w8) X) (
 K (a4) w7)) X)) X)) X)) X
theorem strconv_toError.ok : annOk Tryz.f85 strconv_toError.ann (Tryz.f85.body.getD .skip) 5 = true := by kernel_rfl
theorem strconv_toError.eq {a0 : ByteArray} {a1 : ByteArray} {a2 : Int} {a3 : Int} {a4 : Value} {w : World} {K : Value → World → Prop} {X : List PanicEntry → World → Prop} : strconv_toError.F a0 a1 a2 a3 a4 w K X = vc P strconv_toError.ann (Tryz.f85.body.getD .skip) (retQ P Tryz.f85 K X) (argE [.string a0, .string a1, .int .i64 a2, .int .i64 a3, a4]) w := by kernel_rfl
theorem strconv_toError.call {a0 : ByteArray} {a1 : ByteArray} {a2 : Int} {a3 : Int} {a4 : Value} {w : World} {K : Value → World → Prop} {X : List PanicEntry → World → Prop} (h : strconv_toError.F a0 a1 a2 a3 a4 w K X) : call P 85 [.string a0, .string a1, .int .i64 a2, .int .i64 a3, a4] w K X :=
  call_of good Tryz.func85 (c := (Tryz.f85.body.getD .skip)) (by kernel_rfl) strconv_toError.ann strconv_toError.ok (Eq.mp strconv_toError.eq h)

/-- strings.trimLeftASCII -/
def strings_trimLeftASCII.ann : Ann := .seq (.reg (.op 0 [] .nil)) (.seq (.blk (.loop 32737 [(0, .leaf (.str))] (.seq (.seq (.reg (.op 0 [] (.op 1 [] (.op 2 [] .nil)))) (.cond .leaf .leaf)) (.blk (.seq (.seq (.reg (.op 0 [] (.op 1 [] (.op 2 [] (.op 3 [] (.op 4 [] .nil)))))) (.cond .leaf .leaf)) (.reg (.op 0 [] (.op 1 [] (.op 2 [] .nil))))))))) (.seq (.reg (.op 0 [] (.op 1 [] .nil))) .leaf))
def strings_trimLeftASCII.F (a0 : ByteArray) (a1 : Option Addr) (w : World) (K : Value → World → Prop) (X : List PanicEntry → World → Prop) : Prop :=
 ∀ L1 : List Value → World → Prop, (∀ s1 w1, (∀ _ : Env,
 cnd (iGt (lenN (ByteArray.size s1)) 0) (
 inB 0 (ByteArray.size s1) ∧
 call P 109 [.pointer a1, .int .u8 (bt s1 0)] w1 (fun v2 w3 =>
 asB v2 fun b1 =>
 cnd (!b1) (
 K (.string s1) w3) (
 inC 1 (ByteArray.size s1) ∧
 L1 [.string (cutS s1 (Int.toNat 1) (ByteArray.size s1))] w3)) X) (
 K (.string s1) w1)) → L1 [.string s1] w1) → L1 [.string a0] w
theorem strings_trimLeftASCII.ok : annOk Tryz.f89 strings_trimLeftASCII.ann (Tryz.f89.body.getD .skip) 2 = true := by kernel_rfl
theorem strings_trimLeftASCII.eq {a0 : ByteArray} {a1 : Option Addr} {w : World} {K : Value → World → Prop} {X : List PanicEntry → World → Prop} : strings_trimLeftASCII.F a0 a1 w K X = vc P strings_trimLeftASCII.ann (Tryz.f89.body.getD .skip) (retQ P Tryz.f89 K X) (argE [.string a0, .pointer a1]) w := by kernel_rfl
theorem strings_trimLeftASCII.call {a0 : ByteArray} {a1 : Option Addr} {w : World} {K : Value → World → Prop} {X : List PanicEntry → World → Prop} (h : strings_trimLeftASCII.F a0 a1 w K X) : call P 89 [.string a0, .pointer a1] w K X :=
  call_of good Tryz.func89 (c := (Tryz.f89.body.getD .skip)) (by kernel_rfl) strings_trimLeftASCII.ann strings_trimLeftASCII.ok (Eq.mp strings_trimLeftASCII.eq h)

/-- strings.trimRightASCII -/
def strings_trimRightASCII.ann : Ann := .seq (.reg (.op 0 [] .nil)) (.seq (.blk (.loop 2097121 [(0, .leaf (.str))] (.seq (.seq (.reg (.op 0 [] (.op 1 [] (.op 2 [] .nil)))) (.cond .leaf .leaf)) (.blk (.seq (.seq (.reg (.op 0 [] (.op 1 [] (.op 2 [] (.op 3 [] (.op 4 [] (.op 5 [] (.op 6 [] (.op 7 [] .nil))))))))) (.cond .leaf .leaf)) (.reg (.op 0 [] (.op 1 [] (.op 2 [] (.op 3 [] (.op 4 [] (.op 5 [] .nil)))))))))))) (.seq (.reg (.op 0 [] (.op 1 [] .nil))) .leaf))
def strings_trimRightASCII.F (a0 : ByteArray) (a1 : Option Addr) (w : World) (K : Value → World → Prop) (X : List PanicEntry → World → Prop) : Prop :=
 ∀ L1 : List Value → World → Prop, (∀ s1 w1, (∀ _ : Env,
 cnd (iGt (lenN (ByteArray.size s1)) 0) (
 inB (iSub .i64 (lenN (ByteArray.size s1)) 1) (ByteArray.size s1) ∧
 call P 109 [.pointer a1, .int .u8 (bt s1 (iSub .i64 (lenN (ByteArray.size s1)) 1))] w1 (fun v3 w4 =>
 asB v3 fun b1 =>
 cnd (!b1) (
 K (.string s1) w4) (
 inC (iSub .i64 (lenN (ByteArray.size s1)) 1) (ByteArray.size s1) ∧
 L1 [.string (cutS s1 0 (Int.toNat (iSub .i64 (lenN (ByteArray.size s1)) 1)))] w4)) X) (
 K (.string s1) w1)) → L1 [.string s1] w1) → L1 [.string a0] w
theorem strings_trimRightASCII.ok : annOk Tryz.f90 strings_trimRightASCII.ann (Tryz.f90.body.getD .skip) 2 = true := by kernel_rfl
theorem strings_trimRightASCII.eq {a0 : ByteArray} {a1 : Option Addr} {w : World} {K : Value → World → Prop} {X : List PanicEntry → World → Prop} : strings_trimRightASCII.F a0 a1 w K X = vc P strings_trimRightASCII.ann (Tryz.f90.body.getD .skip) (retQ P Tryz.f90 K X) (argE [.string a0, .pointer a1]) w := by kernel_rfl
theorem strings_trimRightASCII.call {a0 : ByteArray} {a1 : Option Addr} {w : World} {K : Value → World → Prop} {X : List PanicEntry → World → Prop} (h : strings_trimRightASCII.F a0 a1 w K X) : call P 90 [.string a0, .pointer a1] w K X :=
  call_of good Tryz.func90 (c := (Tryz.f90.body.getD .skip)) (by kernel_rfl) strings_trimRightASCII.ann strings_trimRightASCII.ok (Eq.mp strings_trimRightASCII.eq h)

end Go.Proofs.YtgfbkmclekafbaaGreatDoor

/- Readings of functions of the program, printed by gen.py out of the translation: each with the proof that it gives the call. -/
set_option maxRecDepth 100000
namespace Go.Proofs.YtgfbkmclekafbaaGreatDoor
open Go Go.Vc

/-- internal/strconv.ParseUint -/
def strconv_ParseUint_.ann : Ann := .seq (.reg (.op 0 [] (.op 1 [] .nil))) (.seq (.seq (.reg (.op 0 [] (.op 1 [] .nil))) (.cond (.seq (.reg (.op 0 [] (.op 1 [] (.op 2 [] .nil)))) .leaf) .leaf)) (.seq (.reg (.op 0 [] (.op 1 [] (.op 2 [] .nil)))) (.seq (.reg (.op 0 [] (.op 1 [] .nil))) (.seqJ 75557863725914306642115 [(0, .leaf (.str)), (1, .leaf (.int .i64))] (.blk (.seq (.reg (.op 0 [] (.op 1 [] (.op 2 [] (.split 28 (.op 3 [] (.op 4 [] (.op 5 [] .nil))) 3758096384 [(31, .leaf (.bool))] (.op 6 [] .nil)))))) (.cond .leaf (.seq (.reg (.op 0 [] (.op 1 [] (.op 2 [] .nil)))) (.cond (.seq (.reg (.op 0 [] .nil)) (.seq (.reg (.op 0 [] (.op 1 [] (.op 2 [] .nil)))) (.cond (.blk (.seq (.reg (.op 0 [] (.op 1 [] (.op 2 [] (.op 3 [] (.split 44 (.op 4 [] (.op 5 [] (.op 6 [] (.op 7 [] (.op 8 [] .nil))))) 1090715534753792 [(49, .leaf (.bool))] (.op 9 [] .nil))))))) (.cond (.seq (.reg (.op 0 [] .nil)) (.reg (.op 0 [] (.op 1 [] (.op 2 [] .nil))))) (.seq (.reg (.op 0 [] (.op 1 [] (.op 2 [] (.op 3 [] (.split 56 (.op 4 [] (.op 5 [] (.op 6 [] (.op 7 [] (.op 8 [] .nil))))) 4467570830351532032 [(61, .leaf (.bool))] (.op 9 [] .nil))))))) (.cond (.seq (.reg (.op 0 [] .nil)) (.reg (.op 0 [] (.op 1 [] (.op 2 [] .nil))))) (.seq (.reg (.op 0 [] (.op 1 [] (.op 2 [] (.op 3 [] (.split 68 (.op 4 [] (.op 5 [] (.op 6 [] (.op 7 [] (.op 8 [] .nil))))) 18299170121119875203072 [(73, .leaf (.bool))] (.op 9 [] .nil))))))) (.cond (.seq (.reg (.op 0 [] .nil)) (.reg (.op 0 [] (.op 1 [] (.op 2 [] .nil))))) (.seq (.reg (.op 0 [] .nil)) (.reg (.op 0 [] (.op 1 [] (.op 2 [] .nil)))))))))))) .leaf))) (.seq (.reg (.op 0 [] (.op 1 [] (.op 2 [] .nil)))) .leaf)))))) (.seqJ 38610068363942219267178692 [(2, .leaf (.int .i64))] (.seq (.reg (.op 0 [] (.op 1 [] .nil))) (.cond (.reg (.op 0 [] .nil)) (.seq (.reg (.op 0 [] (.op 1 [] (.op 2 [] (.split 80 (.op 3 [] (.op 4 [] (.op 5 [] .nil))) 16924961474604808445886464 [(83, .leaf (.bool))] .nil))))) (.cond (.seq (.reg (.op 0 [] (.op 1 [] (.op 2 [] .nil)))) .leaf) .leaf)))) (.seq (.reg (.op 0 [] .nil)) (.seqJ 19768355002338416264795390976 [(10, .leaf (.int .u64))] (.seq (.reg (.op 0 [] .nil)) (.blk (.seq (.reg (.op 0 [] (.op 1 [] .nil))) (.cond (.reg (.op 0 [] .nil)) (.seq (.reg (.op 0 [] (.op 1 [] .nil))) (.cond (.reg (.op 0 [] .nil)) (.reg (.op 0 [] (.op 1 [] (.op 2 [] (.op 3 [] (.op 4 [] .nil)))))))))))) (.seq (.reg (.op 0 [] (.op 1 [] (.op 2 [] (.op 3 [] (.op 4 [] .nil)))))) (.seq (.reg (.op 0 [] .nil)) (.seq (.reg (.op 0 [] .nil)) (.seq (.seq (.reg (.op 0 [] (.op 1 [] (.op 2 [] (.op 3 [] .nil))))) (.blk (.loop 23384026197294446688723656123004069511501514518720 [(12, .leaf (.bool)), (13, .leaf (.int .u64)), (101, .leaf (.int .i64))] (.seq (.reg (.op 0 [] .nil)) (.seq (.cond .leaf .leaf) (.seq (.blk (.seq (.reg (.op 0 [] (.op 1 [] (.op 2 [] .nil)))) (.seq (.reg (.op 0 [] .nil)) (.seqJ 21778071442375242454352634027738663030976 [(12, .leaf (.bool)), (16, .leaf (.int .u8))] (.blk (.seq (.reg (.op 0 [] (.op 1 [] (.op 2 [] (.split 109 (.op 3 [] (.op 4 [] .nil)) 3894222643901120721397872246915072 [(111, .leaf (.bool))] (.op 5 [] .nil)))))) (.cond (.seq (.reg (.op 0 [] .nil)) .leaf) (.seq (.reg (.op 0 [] (.op 1 [] (.op 2 [] (.split 115 (.op 3 [] (.op 4 [] (.op 5 [] .nil))) 581537248155900694395415588872650752 [(118, .leaf (.bool))] (.op 6 [] .nil)))))) (.cond (.reg (.op 0 [] (.op 1 [] (.op 2 [] .nil)))) (.seq (.reg (.op 0 [] (.op 1 [] (.op 2 [] (.op 3 [] (.split 125 (.op 4 [] (.op 5 [] (.op 6 [] (.op 7 [] .nil)))) 1276058875953519237987654777869130792960 [(129, .leaf (.bool))] (.op 8 [] .nil))))))) (.cond (.reg (.op 0 [] (.op 1 [] (.op 2 [] (.op 3 [] (.op 4 [] .nil)))))) (.seq (.reg (.op 0 [] (.op 1 [] (.op 2 [] .nil)))) .leaf)))))))) (.seq (.seq (.reg (.op 0 [] (.op 1 [] (.op 2 [] (.op 3 [] .nil))))) (.cond (.seq (.reg (.op 0 [] (.op 1 [] (.op 2 [] .nil)))) .leaf) .leaf)) (.seq (.seq (.reg (.op 0 [] (.op 1 [] (.op 2 [] .nil)))) (.cond (.seq (.reg (.op 0 [] (.op 1 [] (.op 2 [] (.op 3 [] .nil))))) .leaf) .leaf)) (.seq (.reg (.op 0 [] (.op 1 [] (.op 2 [] (.op 3 [] (.op 4 [] .nil)))))) (.seq (.reg (.op 0 [] (.op 1 [] (.op 2 [] (.op 3 [] (.op 4 [] .nil)))))) (.seq (.seq (.reg (.op 0 [] (.op 1 [] (.op 2 [] (.op 3 [] (.split 155 (.op 4 [] (.op 5 [] (.op 6 [] (.op 7 [] .nil)))) 1370157784997721485815954530671515330927436759040 [(159, .leaf (.bool))] .nil)))))) (.cond (.seq (.reg (.op 0 [] (.op 1 [] (.op 2 [] (.op 3 [] .nil))))) .leaf) .leaf)) (.reg (.op 0 [] (.op 1 [] .nil)))))))))))) (.reg (.op 0 [] (.op 1 [] .nil))))))))) (.seq (.seq (.reg (.op 0 [] (.op 1 [] (.split 165 (.op 2 [] (.op 3 [] (.op 4 [] (.op 5 [] .nil)))) 1403041571837666801475537439407631698869695241256960 [(169, .leaf (.bool))] .nil)))) (.cond (.seq (.reg (.op 0 [] (.op 1 [] (.op 2 [] .nil)))) .leaf) .leaf)) (.seq (.reg (.op 0 [] (.op 1 [] (.op 2 [] .nil)))) .leaf)))))))))))))
def strconv_ParseUint_.F (a0 : ByteArray) (a1 : Int) (a2 : Int) (w : World) (K : Value → World → Prop) (X : List PanicEntry → World → Prop) : Prop :=
 cnd (sEq a0 (bs [])) (
 K (.tuple #[.int .u64 0, .iface 156 (.int .i64 2)]) w) (
 ∀ K1 : List Value → World → Prop, (∀ s1 n1 w1, (∀ _ : Env,
 ∀ K2 : List Value → World → Prop, (∀ n2 w2, (∀ _ : Env,
 ∀ K3 : List Value → World → Prop, (∀ n3 w3, (∀ _ : Env,
 nng (IntKind.wrap .u64 (n2)) ∧
 runV P (convert 9 39 (.string s1)) w3 (fun v1 w4 =>
 asL v1 fun q1 q1l q1c =>
 ∀ L1 : List Value → World → Prop, (∀ b1 n4 n5 w6, (∀ _ : Env,
 cnd (iLt n5 (lenN q1l)) (
 inB n5 q1l ∧ nn q1 fun d2 =>
 ∀ d1, d1 = Addr.add d2 (scale (Int.toNat n5) 1) →
 ld w6 d1 fun v3 =>
 asI .u8 v3 fun n6 =>
 ∀ K4 : List Value → World → Prop, (∀ b2 n7 w7, (∀ _ : Env,
 cnd (iGe n7 (IntKind.wrap .u8 (n1))) (
 K (.tuple #[.int .u64 0, .iface 156 (.int .i64 2)]) w7) (
 cnd (iGe n4 n3) (
 K (.tuple #[.int .u64 (iSub .u64 (iShl .u64 1 (IntKind.wrap .u64 (n2))) 1), .iface 156 (.int .i64 1)]) w7) (
 ∀ K5 : List Value → World → Prop, (∀ b3 w8, (∀ _ : Env,
 cnd b3 (
 K (.tuple #[.int .u64 (iSub .u64 (iShl .u64 1 (IntKind.wrap .u64 (n2))) 1), .iface 156 (.int .i64 1)]) w8) (
 L1 [.bool b2, .int .u64 (iAdd .u64 (iMul .u64 n4 (IntKind.wrap .u64 (n1))) (IntKind.wrap .u64 (n7))), .int .i64 (iAdd .i64 n5 1)] w8)) → K5 [.bool b3] w8) →
 cnd (iLt (iAdd .u64 (iMul .u64 n4 (IntKind.wrap .u64 (n1))) (IntKind.wrap .u64 (n7))) (iMul .u64 n4 (IntKind.wrap .u64 (n1)))) (
 K5 [.bool true] w7) (
 K5 [.bool (iGt (iAdd .u64 (iMul .u64 n4 (IntKind.wrap .u64 (n1))) (IntKind.wrap .u64 (n7))) (iSub .u64 (iShl .u64 1 (IntKind.wrap .u64 (n2))) 1))] w7)))) → K4 [.bool b2, .int .u8 n7] w7) →
 ∀ K6 : List Value → World → Prop, (∀ b4 w9, (∀ _ : Env,
 cnd b4 (
 L1 [.bool true, .int .u64 n4, .int .i64 (iAdd .i64 n5 1)] w9) (
 ∀ K7 : List Value → World → Prop, (∀ b5 w10, (∀ _ : Env,
 cnd b5 (
 K4 [.bool b1, .int .u8 (iSub .u8 n6 48)] w10) (
 call P 112 [.int .u8 n6] w10 (fun v4 w11 =>
 asI .u8 v4 fun n8 =>
 ∀ K8 : List Value → World → Prop, (∀ b6 w12, (∀ _ : Env,
 cnd b6 (
 call P 112 [.int .u8 n6] w12 (fun v5 w13 =>
 asI .u8 v5 fun n9 =>
 K4 [.bool b1, .int .u8 (iAdd .u8 (iSub .u8 n9 97) 10)] w13) X) (
 K (.tuple #[.int .u64 0, .iface 156 (.int .i64 2)]) w12)) → K8 [.bool b6] w12) →
 cnd (iLe 97 n8) (
 call P 112 [.int .u8 n6] w11 (fun v6 w14 =>
 asI .u8 v6 fun n10 =>
 K8 [.bool (iLe n10 122)] w14) X) (
 K8 [.bool false] w11)) X)) → K7 [.bool b5] w10) →
 cnd (iLe 48 n6) (
 K7 [.bool (iLe n6 57)] w9) (
 K7 [.bool false] w9))) → K6 [.bool b4] w9) →
 cnd (iEq n6 95) (
 K6 [.bool (iEq a1 0)] w6) (
 K6 [.bool false] w6)) (
 ∀ K9 : List Value → World → Prop, (∀ b7 w15, (∀ _ : Env,
 cnd b7 (
 K (.tuple #[.int .u64 0, .iface 156 (.int .i64 2)]) w15) (
 K (.tuple #[.int .u64 n4, .nilIface]) w15)) → K9 [.bool b7] w15) →
 cnd b1 (
 call P 113 [.string a0] w6 (fun v7 w16 =>
 asB v7 fun b8 =>
 K9 [.bool (!b8)] w16) X) (
 K9 [.bool false] w6))) → L1 [.bool b1, .int .u64 n4, .int .i64 n5] w6) → L1 [.bool false, .int .u64 0, .int .i64 0] w4) X) → K3 [.int .u64 n3] w3) →
 cnd (iEq n1 10) (
 K3 [.int .u64 1844674407370955162] w2) (
 cnd (iEq n1 16) (
 K3 [.int .u64 1152921504606846976] w2) (
 nz (IntKind.wrap .u64 (n1)) ∧
 K3 [.int .u64 (iAdd .u64 (iQuo .u64 18446744073709551615 (IntKind.wrap .u64 (n1))) 1)] w2))) → K2 [.int .i64 n2] w2) →
 cnd (iEq a2 0) (
 K2 [.int .i64 64] w1) (
 ∀ K10 : List Value → World → Prop, (∀ b9 w17, (∀ _ : Env,
 cnd b9 (
 K (.tuple #[.int .u64 0, .iface 156 (.int .i64 4)]) w17) (
 K2 [.int .i64 a2] w17)) → K10 [.bool b9] w17) →
 cnd (iLt a2 0) (
 K10 [.bool true] w1) (
 K10 [.bool (iGt a2 64)] w1))) → K1 [.string s1, .int .i64 n1] w1) →
 ∀ K11 : List Value → World → Prop, (∀ b10 w18, (∀ _ : Env,
 cnd b10 (
 K1 [.string a0, .int .i64 a1] w18) (
 cnd (iEq a1 0) (
 inB 0 (ByteArray.size a0) ∧
 cnd (iEq (bt a0 0) 48) (
 ∀ K12 : List Value → World → Prop, (∀ b11 w20, (∀ _ : Env,
 cnd b11 (
 inC 2 (ByteArray.size a0) ∧
 K1 [.string (cutS a0 (Int.toNat 2) (ByteArray.size a0)), .int .i64 2] w20) (
 ∀ K13 : List Value → World → Prop, (∀ b12 w22, (∀ _ : Env,
 cnd b12 (
 inC 2 (ByteArray.size a0) ∧
 K1 [.string (cutS a0 (Int.toNat 2) (ByteArray.size a0)), .int .i64 8] w22) (
 ∀ K14 : List Value → World → Prop, (∀ b13 w24, (∀ _ : Env,
 cnd b13 (
 inC 2 (ByteArray.size a0) ∧
 K1 [.string (cutS a0 (Int.toNat 2) (ByteArray.size a0)), .int .i64 16] w24) (
 inC 1 (ByteArray.size a0) ∧
 K1 [.string (cutS a0 (Int.toNat 1) (ByteArray.size a0)), .int .i64 8] w24)) → K14 [.bool b13] w24) →
 cnd (iGe (lenN (ByteArray.size a0)) 3) (
 inB 1 (ByteArray.size a0) ∧
 call P 112 [.int .u8 (bt a0 1)] w22 (fun v11 w25 =>
 asI .u8 v11 fun n11 =>
 K14 [.bool (iEq n11 120)] w25) X) (
 K14 [.bool false] w22))) → K13 [.bool b12] w22) →
 cnd (iGe (lenN (ByteArray.size a0)) 3) (
 inB 1 (ByteArray.size a0) ∧
 call P 112 [.int .u8 (bt a0 1)] w20 (fun v12 w26 =>
 asI .u8 v12 fun n12 =>
 K13 [.bool (iEq n12 111)] w26) X) (
 K13 [.bool false] w20))) → K12 [.bool b11] w20) →
 cnd (iGe (lenN (ByteArray.size a0)) 3) (
 inB 1 (ByteArray.size a0) ∧
 call P 112 [.int .u8 (bt a0 1)] w18 (fun v13 w27 =>
 asI .u8 v13 fun n13 =>
 K12 [.bool (iEq n13 98)] w27) X) (
 K12 [.bool false] w18)) (
 K1 [.string a0, .int .i64 10] w18)) (
 K (.tuple #[.int .u64 0, .iface 156 (.int .i64 3)]) w18))) → K11 [.bool b10] w18) →
 cnd (iLe 2 a1) (
 K11 [.bool (iLe a1 36)] w) (
 K11 [.bool false] w))
theorem strconv_ParseUint_.ok : annOk Tryz.f93 strconv_ParseUint_.ann (Tryz.f93.body.getD .skip) 3 = true := by kernel_rfl
theorem strconv_ParseUint_.eq {a0 : ByteArray} {a1 : Int} {a2 : Int} {w : World} {K : Value → World → Prop} {X : List PanicEntry → World → Prop} : strconv_ParseUint_.F a0 a1 a2 w K X = vc P strconv_ParseUint_.ann (Tryz.f93.body.getD .skip) (retQ P Tryz.f93 K X) (argE [.string a0, .int .i64 a1, .int .i64 a2]) w := by kernel_rfl
theorem strconv_ParseUint_.call {a0 : ByteArray} {a1 : Int} {a2 : Int} {w : World} {K : Value → World → Prop} {X : List PanicEntry → World → Prop} (h : strconv_ParseUint_.F a0 a1 a2 w K X) : call P 93 [.string a0, .int .i64 a1, .int .i64 a2] w K X :=
  call_of good Tryz.func93 (c := (Tryz.f93.body.getD .skip)) (by kernel_rfl) strconv_ParseUint_.ann strconv_ParseUint_.ok (Eq.mp strconv_ParseUint_.eq h)

/-- math/bits.TrailingZeros64 -/
def bits_TrailingZeros64.ann : Ann := .seq (.reg (.op 0 [] .nil)) (.seq (.seq (.reg (.op 0 [] (.op 1 [] .nil))) (.cond (.seq (.reg (.op 0 [] .nil)) .leaf) .leaf)) (.seq (.reg (.op 0 [] (.op 1 [] (.op 2 [] (.op 3 [] (.op 4 [] (.op 5 [] (.op 6 [] (.op 7 [] (.op 8 [] (.op 9 [] .nil))))))))))) .leaf))
def bits_TrailingZeros64.F (a0 : Int) (w : World) (K : Value → World → Prop) (X : List PanicEntry → World → Prop) : Prop :=
 cnd (iEq a0 0) (
 K (.int .i64 64) w) (
 nng 58 ∧
 inB (iShr .u64 (iMul .u64 (bAnd .u64 a0 (iSub .u64 0 a0)) 285870213051353865) 58) 64 ∧
 ∀ d1, d1 = Addr.add (⟨6, 0, none⟩ : Addr) (scale (Int.toNat (iShr .u64 (iMul .u64 (bAnd .u64 a0 (iSub .u64 0 a0)) 285870213051353865) 58)) 1) →
 ld w d1 fun v1 =>
 asI .u8 v1 fun n1 =>
 K (.int .i64 (IntKind.wrap .i64 (n1))) w)
theorem bits_TrailingZeros64.ok : annOk Tryz.f95 bits_TrailingZeros64.ann (Tryz.f95.body.getD .skip) 1 = true := by kernel_rfl
theorem bits_TrailingZeros64.eq {a0 : Int} {w : World} {K : Value → World → Prop} {X : List PanicEntry → World → Prop} : bits_TrailingZeros64.F a0 w K X = vc P bits_TrailingZeros64.ann (Tryz.f95.body.getD .skip) (retQ P Tryz.f95 K X) (argE [.int .u64 a0]) w := by kernel_rfl
theorem bits_TrailingZeros64.call {a0 : Int} {w : World} {K : Value → World → Prop} {X : List PanicEntry → World → Prop} (h : bits_TrailingZeros64.F a0 w K X) : call P 95 [.int .u64 a0] w K X :=
  call_of good Tryz.func95 (c := (Tryz.f95.body.getD .skip)) (by kernel_rfl) bits_TrailingZeros64.ann bits_TrailingZeros64.ok (Eq.mp bits_TrailingZeros64.eq h)

/-- internal/strconv.lower -/
def strconv_lower.ann : Ann := .seq (.reg (.op 0 [] .nil)) (.seq (.reg (.op 0 [] (.op 1 [] (.op 2 [] .nil)))) .leaf)
def strconv_lower.F (a0 : Int) (w : World) (K : Value → World → Prop) (X : List PanicEntry → World → Prop) : Prop :=
 K (.int .u8 (bOr .u8 a0 32)) w
theorem strconv_lower.ok : annOk Tryz.f112 strconv_lower.ann (Tryz.f112.body.getD .skip) 1 = true := by kernel_rfl
theorem strconv_lower.eq {a0 : Int} {w : World} {K : Value → World → Prop} {X : List PanicEntry → World → Prop} : strconv_lower.F a0 w K X = vc P strconv_lower.ann (Tryz.f112.body.getD .skip) (retQ P Tryz.f112 K X) (argE [.int .u8 a0]) w := by kernel_rfl
theorem strconv_lower.call {a0 : Int} {w : World} {K : Value → World → Prop} {X : List PanicEntry → World → Prop} (h : strconv_lower.F a0 w K X) : call P 112 [.int .u8 a0] w K X :=
  call_of good Tryz.func112 (c := (Tryz.f112.body.getD .skip)) (by kernel_rfl) strconv_lower.ann strconv_lower.ok (Eq.mp strconv_lower.eq h)

end Go.Proofs.YtgfbkmclekafbaaGreatDoor
