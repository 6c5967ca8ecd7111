/- Readings of functions of the program, printed by gen.py out of the translation: each with the proof that it gives the call. -/
import Derived.Test.YtgfbkmclekafbaaGreatDoorQBase
set_option linter.unusedVariables false
set_option linter.unusedSimpArgs false
set_option linter.unnecessarySimpa false
set_option maxRecDepth 100000
namespace Go.Proofs.YtgfbkmclekafbaaGreatDoor
open Go Go.Vc

/-- strconv.FormatUint -/
def strconv_FormatUint.ann : Ann := .seq (.reg (.op 0 [] .nil)) (.seq (.reg (.op 0 [] (.op 1 [] (.op 2 [] (.op 3 [] .nil))))) .leaf)
def strconv_FormatUint.F (a0 : Int) (a1 : Int) (w : World) (K : Value → World → Prop) (X : List PanicEntry → World → Prop) : Prop :=
 call P 53 [.int .u64 a0, .int .i64 a1] w (fun v1 w1 =>
 asS v1 fun s1 =>
 K (.string s1) w1) X
theorem strconv_FormatUint.ok : annOk Tryz.f35 strconv_FormatUint.ann (Tryz.f35.body.getD .skip) 2 = true := by kernel_rfl
theorem strconv_FormatUint.eq {a0 : Int} {a1 : Int} {w : World} {K : Value → World → Prop} {X : List PanicEntry → World → Prop} : strconv_FormatUint.F a0 a1 w K X = vc P strconv_FormatUint.ann (Tryz.f35.body.getD .skip) (retQ P Tryz.f35 K X) (argE [.int .u64 a0, .int .i64 a1]) w := by kernel_rfl
theorem strconv_FormatUint.call {a0 : Int} {a1 : Int} {w : World} {K : Value → World → Prop} {X : List PanicEntry → World → Prop} (h : strconv_FormatUint.F a0 a1 w K X) : call P 35 [.int .u64 a0, .int .i64 a1] w K X :=
  call_of good Tryz.func35 (c := (Tryz.f35.body.getD .skip)) (by kernel_rfl) strconv_FormatUint.ann strconv_FormatUint.ok (Eq.mp strconv_FormatUint.eq h)

/-- strings.Repeat -/
def strings_Repeat.ann : Ann := .seq (.reg (.op 0 [] .nil)) (.seq (.seq (.reg (.op 0 [] .nil)) (.blk (.seq (.reg (.op 0 [] (.op 1 [] .nil))) (.cond (.seq (.reg (.op 0 [] .nil)) .leaf) (.seq (.reg (.op 0 [] (.op 1 [] .nil))) (.cond (.seq (.reg (.op 0 [] (.op 1 [] .nil))) .leaf) .leaf)))))) (.seqJ 917504 [] (.seq (.reg (.op 0 [] (.op 1 [] .nil))) (.cond (.reg (.op 0 [] (.op 1 [] .nil))) .leaf)) (.seq (.reg (.op 0 [] (.op 1 [] (.op 2 [] (.op 3 [] (.op 4 [] (.op 5 [] (.op 6 [] (.op 7 [] (.op 8 [] (.op 9 [] (.op 10 [] .nil)))))))))))) (.seqJ 68182605824 [] (.seq (.reg (.op 0 [] (.op 1 [] (.op 2 [] (.split 31 (.op 3 [] (.op 4 [] (.op 5 [] .nil))) 30064771072 [(34, .leaf (.bool))] .nil))))) (.cond (.reg (.op 0 [] (.op 1 [] .nil))) .leaf)) (.seq (.reg (.op 0 [] (.op 1 [] (.op 2 [] .nil)))) (.seq (.seq (.reg (.op 0 [] (.op 1 [] (.op 2 [] .nil)))) (.cond (.seq (.reg (.op 0 [] .nil)) .leaf) .leaf)) (.seqJ 19807040628566082199362732048 [] (.seq (.reg (.op 0 [] (.op 1 [] .nil))) (.blk (.seqJ 554153860399104 [(43, .leaf (.bool))] (.seq (.reg (.op 0 [] (.op 1 [] .nil))) (.cond .leaf (.seq (.reg (.op 0 [] (.op 1 [] .nil))) (.cond .leaf (.seq (.reg (.op 0 [] (.op 1 [] .nil))) (.cond .leaf (.seq (.reg (.op 0 [] (.op 1 [] .nil))) (.cond .leaf (.reg (.op 0 [] (.op 1 [] .nil))))))))))) (.cond (.blk (.seq (.reg (.op 0 [] (.op 1 [] (.op 2 [] (.split 52 (.op 3 [] (.op 4 [] (.op 5 [] .nil))) 63050394783186944 [(55, .leaf (.bool))] (.op 6 [] .nil)))))) (.cond (.seq (.reg (.op 0 [] (.op 1 [] (.op 2 [] .nil)))) .leaf) (.seq (.reg (.op 0 [] (.op 1 [] (.op 2 [] (.split 61 (.op 3 [] (.op 4 [] (.op 5 [] .nil))) 32281802128991715328 [(64, .leaf (.bool))] (.op 6 [] .nil)))))) (.cond (.seq (.reg (.op 0 [] (.op 1 [] (.op 2 [] .nil)))) .leaf) (.seq (.reg (.op 0 [] (.op 1 [] (.op 2 [] (.split 70 (.op 3 [] (.op 4 [] (.op 5 [] .nil))) 16528282690043758247936 [(73, .leaf (.bool))] (.op 6 [] .nil)))))) (.cond (.seq (.reg (.op 0 [] (.op 1 [] (.op 2 [] .nil)))) .leaf) (.seq (.reg (.op 0 [] (.op 1 [] (.op 2 [] (.split 79 (.op 3 [] (.op 4 [] (.op 5 [] .nil))) 8462480737302404222943232 [(82, .leaf (.bool))] (.op 6 [] .nil)))))) (.cond (.seq (.reg (.op 0 [] (.op 1 [] (.op 2 [] .nil)))) .leaf) (.seq (.reg (.op 0 [] (.op 1 [] (.op 2 [] (.split 88 (.op 3 [] (.op 4 [] (.op 5 [] .nil))) 4332790137498830962146934784 [(91, .leaf (.bool))] (.op 6 [] .nil)))))) (.cond (.seq (.reg (.op 0 [] (.op 1 [] (.op 2 [] .nil)))) .leaf) .leaf))))))))))) .leaf)))) (.seq (.reg (.op 0 [] (.op 1 [] .nil))) (.seqJ 162219662747956231222781238313216 [(8, .leaf (.int .i64))] (.seq (.reg (.op 0 [] (.op 1 [] .nil))) (.cond (.seq (.reg (.op 0 [] (.op 1 [] (.op 2 [] (.op 3 [] (.op 4 [] (.op 5 [] (.op 6 [] .nil)))))))) (.seq (.reg (.op 0 [] (.op 1 [] .nil))) (.cond (.reg (.op 0 [] (.op 1 [] (.op 2 [] .nil)))) .leaf))) .leaf)) (.seq (.reg (.op 0 [] .nil)) (.seq (.reg (.op 0 [] (.op 1 [] .nil))) (.seq (.reg (.op 0 [] (.op 1 [] .nil))) (.seq (.blk (.loop 21265051784129386552646647716320904192 [] (.seq (.seq (.reg (.op 0 [] (.op 1 [] (.op 2 [] .nil)))) (.cond .leaf .leaf)) (.blk (.seq (.reg (.op 0 [] (.op 1 [] (.op 2 [] (.op 3 [] (.op 4 [] (.op 5 [] (.op 6 [] .nil)))))))) (.reg (.op 0 [] (.op 1 [] (.op 2 [] (.op 3 [] .nil)))))))))) (.seq (.reg (.op 0 [] (.op 1 [] .nil))) .leaf))))))))))))))
def strings_Repeat.F (a0 : ByteArray) (a1 : Int) (w : World) (K : Value → World → Prop) (X : List PanicEntry → World → Prop) : Prop :=
 cnd (iEq a1 0) (
 K (.string (bs [])) w) (
 cnd (iEq a1 1) (
 K (.string a0) w) (
 ∀ K1 : List Value → World → Prop, (∀ w1, (∀ _ : Env,
 call P 54 [.int .u64 (IntKind.wrap .u64 (lenN (ByteArray.size a0))), .int .u64 (IntKind.wrap .u64 (a1))] w1 (fun v2 w3 =>
 tuN 2 v2 (fun v3 v4 => show Prop from
 asI .u64 v3 fun n1 =>
 asI .u64 v4 fun n2 =>
 ∀ K2 : List Value → World → Prop, (∀ w4, (∀ _ : Env,
 cnd (iEq (lenN (ByteArray.size a0)) 0) (
 K (.string (bs [])) w4) (
 ∀ K3 : List Value → World → Prop, (∀ w6, (∀ _ : Env,
 ∀ K4 : List Value → World → Prop, (∀ n3 w7, (∀ _ : Env,
 al w7 (.cells (#[.pointer none, .slice none 0 0]) 52) fun k1 w8 =>
 call P 56 [.pointer (some ⟨k1, 0, none⟩), .int .i64 (IntKind.wrap .i64 (n2))] w8 (fun v6 w9 =>
 tuN 0 v6 (call P 16 [.pointer (some ⟨k1, 0, none⟩), .string a0] w9 (fun v7 w10 =>
 tuN 2 v7 (fun v8 v9 => show Prop from
 asI .i64 v8 fun n4 =>
 ∀ L1 : List Value → World → Prop, (∀ w11, (∀ _ : Env,
 call P 19 [.pointer (some ⟨k1, 0, none⟩)] w11 (fun v10 w12 =>
 asI .i64 v10 fun n5 =>
 cnd (iLt n5 (IntKind.wrap .i64 (n2))) (
 call P 19 [.pointer (some ⟨k1, 0, none⟩)] w12 (fun v11 w13 =>
 asI .i64 v11 fun n6 =>
 call P 19 [.pointer (some ⟨k1, 0, none⟩)] w13 (fun v12 w14 =>
 asI .i64 v12 fun n7 =>
 call P 23 [.pointer (some ⟨k1, 0, none⟩)] w14 (fun v14 w16 =>
 asS v14 fun s1 =>
 inC (if n3 < (if n7 < (iSub .i64 (IntKind.wrap .i64 (n2)) n6) then n7 else (iSub .i64 (IntKind.wrap .i64 (n2)) n6)) then n3 else (if n7 < (iSub .i64 (IntKind.wrap .i64 (n2)) n6) then n7 else (iSub .i64 (IntKind.wrap .i64 (n2)) n6))) (ByteArray.size s1) ∧
 call P 16 [.pointer (some ⟨k1, 0, none⟩), .string (cutS s1 0 (Int.toNat (if n3 < (if n7 < (iSub .i64 (IntKind.wrap .i64 (n2)) n6) then n7 else (iSub .i64 (IntKind.wrap .i64 (n2)) n6)) then n3 else (if n7 < (iSub .i64 (IntKind.wrap .i64 (n2)) n6) then n7 else (iSub .i64 (IntKind.wrap .i64 (n2)) n6)))))] w16 (fun v15 w17 =>
 tuN 2 v15 (fun v16 v17 => show Prop from
 asI .i64 v16 fun n8 =>
 L1 [] w17)) X) X) X) X) (
 call P 23 [.pointer (some ⟨k1, 0, none⟩)] w12 (fun v18 w18 =>
 asS v18 fun s2 =>
 K (.string s2) w18) X)) X) → L1 [] w11) → L1 [] w10)) X)) X) → K4 [.int .i64 n3] w7) →
 cnd (iGt (IntKind.wrap .i64 (n2)) 8192) (
 nz (lenN (ByteArray.size a0)) ∧
 cnd (iEq (iMul .i64 (iQuo .i64 8192 (lenN (ByteArray.size a0))) (lenN (ByteArray.size a0))) 0) (
 K4 [.int .i64 (lenN (ByteArray.size a0))] w6) (
 K4 [.int .i64 (iMul .i64 (iQuo .i64 8192 (lenN (ByteArray.size a0))) (lenN (ByteArray.size a0)))] w6)) (
 K4 [.int .i64 (IntKind.wrap .i64 (n2))] w6)) → K3 [] w6) →
 inB 0 (ByteArray.size a0) ∧
 ∀ K5 : List Value → World → Prop, (∀ b1 w22, (∀ _ : Env,
 cnd b1 (
 ∀ K6 : List Value → World → Prop, (∀ b2 w23, (∀ _ : Env,
 cnd b2 (
 inC (IntKind.wrap .i64 (n2)) (ByteArray.size (bs [32, 32, 32, 32, 32, 32, 32, 32, 32, 32, 32, 32, 32, 32, 32, 32, 32, 32, 32, 32, 32, 32, 32, 32, 32, 32, 32, 32, 32, 32, 32, 32, 32, 32, 32, 32, 32, 32, 32, 32, 32, 32, 32, 32, 32, 32, 32, 32, 32, 32, 32, 32, 32, 32, 32, 32, 32, 32, 32, 32, 32, 32, 32, 32, 32, 32, 32, 32, 32, 32, 32, 32, 32, 32, 32, 32, 32, 32, 32, 32, 32, 32, 32, 32, 32, 32, 32, 32, 32, 32, 32, 32, 32, 32, 32, 32, 32, 32, 32, 32, 32, 32, 32, 32, 32, 32, 32, 32, 32, 32, 32, 32, 32, 32, 32, 32, 32, 32, 32, 32, 32, 32, 32, 32, 32, 32, 32, 32])) ∧
 K (.string (cutS (bs [32, 32, 32, 32, 32, 32, 32, 32, 32, 32, 32, 32, 32, 32, 32, 32, 32, 32, 32, 32, 32, 32, 32, 32, 32, 32, 32, 32, 32, 32, 32, 32, 32, 32, 32, 32, 32, 32, 32, 32, 32, 32, 32, 32, 32, 32, 32, 32, 32, 32, 32, 32, 32, 32, 32, 32, 32, 32, 32, 32, 32, 32, 32, 32, 32, 32, 32, 32, 32, 32, 32, 32, 32, 32, 32, 32, 32, 32, 32, 32, 32, 32, 32, 32, 32, 32, 32, 32, 32, 32, 32, 32, 32, 32, 32, 32, 32, 32, 32, 32, 32, 32, 32, 32, 32, 32, 32, 32, 32, 32, 32, 32, 32, 32, 32, 32, 32, 32, 32, 32, 32, 32, 32, 32, 32, 32, 32, 32]) 0 (Int.toNat (IntKind.wrap .i64 (n2))))) w23) (
 ∀ K7 : List Value → World → Prop, (∀ b3 w24, (∀ _ : Env,
 cnd b3 (
 inC (IntKind.wrap .i64 (n2)) (ByteArray.size (bs [45, 45, 45, 45, 45, 45, 45, 45, 45, 45, 45, 45, 45, 45, 45, 45, 45, 45, 45, 45, 45, 45, 45, 45, 45, 45, 45, 45, 45, 45, 45, 45, 45, 45, 45, 45, 45, 45, 45, 45, 45, 45, 45, 45, 45, 45, 45, 45, 45, 45, 45, 45, 45, 45, 45, 45, 45, 45, 45, 45, 45, 45, 45, 45, 45, 45, 45, 45, 45, 45, 45, 45, 45, 45, 45, 45, 45, 45, 45, 45, 45, 45, 45, 45, 45, 45, 45, 45, 45, 45, 45, 45, 45, 45, 45, 45, 45, 45, 45, 45, 45, 45, 45, 45, 45, 45, 45, 45, 45, 45, 45, 45, 45, 45, 45, 45, 45, 45, 45, 45, 45, 45, 45, 45, 45, 45, 45, 45])) ∧
 K (.string (cutS (bs [45, 45, 45, 45, 45, 45, 45, 45, 45, 45, 45, 45, 45, 45, 45, 45, 45, 45, 45, 45, 45, 45, 45, 45, 45, 45, 45, 45, 45, 45, 45, 45, 45, 45, 45, 45, 45, 45, 45, 45, 45, 45, 45, 45, 45, 45, 45, 45, 45, 45, 45, 45, 45, 45, 45, 45, 45, 45, 45, 45, 45, 45, 45, 45, 45, 45, 45, 45, 45, 45, 45, 45, 45, 45, 45, 45, 45, 45, 45, 45, 45, 45, 45, 45, 45, 45, 45, 45, 45, 45, 45, 45, 45, 45, 45, 45, 45, 45, 45, 45, 45, 45, 45, 45, 45, 45, 45, 45, 45, 45, 45, 45, 45, 45, 45, 45, 45, 45, 45, 45, 45, 45, 45, 45, 45, 45, 45, 45]) 0 (Int.toNat (IntKind.wrap .i64 (n2))))) w24) (
 ∀ K8 : List Value → World → Prop, (∀ b4 w25, (∀ _ : Env,
 cnd b4 (
 inC (IntKind.wrap .i64 (n2)) (ByteArray.size (bs [48, 48, 48, 48, 48, 48, 48, 48, 48, 48, 48, 48, 48, 48, 48, 48, 48, 48, 48, 48, 48, 48, 48, 48, 48, 48, 48, 48, 48, 48, 48, 48, 48, 48, 48, 48, 48, 48, 48, 48, 48, 48, 48, 48, 48, 48, 48, 48, 48, 48, 48, 48, 48, 48, 48, 48, 48, 48, 48, 48, 48, 48, 48, 48])) ∧
 K (.string (cutS (bs [48, 48, 48, 48, 48, 48, 48, 48, 48, 48, 48, 48, 48, 48, 48, 48, 48, 48, 48, 48, 48, 48, 48, 48, 48, 48, 48, 48, 48, 48, 48, 48, 48, 48, 48, 48, 48, 48, 48, 48, 48, 48, 48, 48, 48, 48, 48, 48, 48, 48, 48, 48, 48, 48, 48, 48, 48, 48, 48, 48, 48, 48, 48, 48]) 0 (Int.toNat (IntKind.wrap .i64 (n2))))) w25) (
 ∀ K9 : List Value → World → Prop, (∀ b5 w26, (∀ _ : Env,
 cnd b5 (
 inC (IntKind.wrap .i64 (n2)) (ByteArray.size (bs [61, 61, 61, 61, 61, 61, 61, 61, 61, 61, 61, 61, 61, 61, 61, 61, 61, 61, 61, 61, 61, 61, 61, 61, 61, 61, 61, 61, 61, 61, 61, 61, 61, 61, 61, 61, 61, 61, 61, 61, 61, 61, 61, 61, 61, 61, 61, 61, 61, 61, 61, 61, 61, 61, 61, 61, 61, 61, 61, 61, 61, 61, 61, 61, 61, 61, 61, 61, 61, 61, 61, 61, 61, 61, 61, 61, 61, 61, 61, 61, 61, 61, 61, 61, 61, 61, 61, 61, 61, 61, 61, 61, 61, 61, 61, 61, 61, 61, 61, 61, 61, 61, 61, 61, 61, 61, 61, 61, 61, 61, 61, 61, 61, 61, 61, 61, 61, 61, 61, 61, 61, 61, 61, 61, 61, 61, 61, 61])) ∧
 K (.string (cutS (bs [61, 61, 61, 61, 61, 61, 61, 61, 61, 61, 61, 61, 61, 61, 61, 61, 61, 61, 61, 61, 61, 61, 61, 61, 61, 61, 61, 61, 61, 61, 61, 61, 61, 61, 61, 61, 61, 61, 61, 61, 61, 61, 61, 61, 61, 61, 61, 61, 61, 61, 61, 61, 61, 61, 61, 61, 61, 61, 61, 61, 61, 61, 61, 61, 61, 61, 61, 61, 61, 61, 61, 61, 61, 61, 61, 61, 61, 61, 61, 61, 61, 61, 61, 61, 61, 61, 61, 61, 61, 61, 61, 61, 61, 61, 61, 61, 61, 61, 61, 61, 61, 61, 61, 61, 61, 61, 61, 61, 61, 61, 61, 61, 61, 61, 61, 61, 61, 61, 61, 61, 61, 61, 61, 61, 61, 61, 61, 61]) 0 (Int.toNat (IntKind.wrap .i64 (n2))))) w26) (
 ∀ K10 : List Value → World → Prop, (∀ b6 w27, (∀ _ : Env,
 cnd b6 (
 inC (IntKind.wrap .i64 (n2)) (ByteArray.size (bs [9, 9, 9, 9, 9, 9, 9, 9, 9, 9, 9, 9, 9, 9, 9, 9, 9, 9, 9, 9, 9, 9, 9, 9, 9, 9, 9, 9, 9, 9, 9, 9, 9, 9, 9, 9, 9, 9, 9, 9, 9, 9, 9, 9, 9, 9, 9, 9, 9, 9, 9, 9, 9, 9, 9, 9, 9, 9, 9, 9, 9, 9, 9, 9])) ∧
 K (.string (cutS (bs [9, 9, 9, 9, 9, 9, 9, 9, 9, 9, 9, 9, 9, 9, 9, 9, 9, 9, 9, 9, 9, 9, 9, 9, 9, 9, 9, 9, 9, 9, 9, 9, 9, 9, 9, 9, 9, 9, 9, 9, 9, 9, 9, 9, 9, 9, 9, 9, 9, 9, 9, 9, 9, 9, 9, 9, 9, 9, 9, 9, 9, 9, 9, 9]) 0 (Int.toNat (IntKind.wrap .i64 (n2))))) w27) (
 K3 [] w27)) → K10 [.bool b6] w27) →
 cnd (iLe (IntKind.wrap .i64 (n2)) 64) (
 call P 55 [.string (bs [9, 9, 9, 9, 9, 9, 9, 9, 9, 9, 9, 9, 9, 9, 9, 9, 9, 9, 9, 9, 9, 9, 9, 9, 9, 9, 9, 9, 9, 9, 9, 9, 9, 9, 9, 9, 9, 9, 9, 9, 9, 9, 9, 9, 9, 9, 9, 9, 9, 9, 9, 9, 9, 9, 9, 9, 9, 9, 9, 9, 9, 9, 9, 9]), .string a0] w26 (fun v22 w28 =>
 asB v22 fun b7 =>
 K10 [.bool b7] w28) X) (
 K10 [.bool false] w26))) → K9 [.bool b5] w26) →
 cnd (iLe (IntKind.wrap .i64 (n2)) 128) (
 call P 55 [.string (bs [61, 61, 61, 61, 61, 61, 61, 61, 61, 61, 61, 61, 61, 61, 61, 61, 61, 61, 61, 61, 61, 61, 61, 61, 61, 61, 61, 61, 61, 61, 61, 61, 61, 61, 61, 61, 61, 61, 61, 61, 61, 61, 61, 61, 61, 61, 61, 61, 61, 61, 61, 61, 61, 61, 61, 61, 61, 61, 61, 61, 61, 61, 61, 61, 61, 61, 61, 61, 61, 61, 61, 61, 61, 61, 61, 61, 61, 61, 61, 61, 61, 61, 61, 61, 61, 61, 61, 61, 61, 61, 61, 61, 61, 61, 61, 61, 61, 61, 61, 61, 61, 61, 61, 61, 61, 61, 61, 61, 61, 61, 61, 61, 61, 61, 61, 61, 61, 61, 61, 61, 61, 61, 61, 61, 61, 61, 61, 61]), .string a0] w25 (fun v23 w29 =>
 asB v23 fun b8 =>
 K9 [.bool b8] w29) X) (
 K9 [.bool false] w25))) → K8 [.bool b4] w25) →
 cnd (iLe (IntKind.wrap .i64 (n2)) 64) (
 call P 55 [.string (bs [48, 48, 48, 48, 48, 48, 48, 48, 48, 48, 48, 48, 48, 48, 48, 48, 48, 48, 48, 48, 48, 48, 48, 48, 48, 48, 48, 48, 48, 48, 48, 48, 48, 48, 48, 48, 48, 48, 48, 48, 48, 48, 48, 48, 48, 48, 48, 48, 48, 48, 48, 48, 48, 48, 48, 48, 48, 48, 48, 48, 48, 48, 48, 48]), .string a0] w24 (fun v24 w30 =>
 asB v24 fun b9 =>
 K8 [.bool b9] w30) X) (
 K8 [.bool false] w24))) → K7 [.bool b3] w24) →
 cnd (iLe (IntKind.wrap .i64 (n2)) 128) (
 call P 55 [.string (bs [45, 45, 45, 45, 45, 45, 45, 45, 45, 45, 45, 45, 45, 45, 45, 45, 45, 45, 45, 45, 45, 45, 45, 45, 45, 45, 45, 45, 45, 45, 45, 45, 45, 45, 45, 45, 45, 45, 45, 45, 45, 45, 45, 45, 45, 45, 45, 45, 45, 45, 45, 45, 45, 45, 45, 45, 45, 45, 45, 45, 45, 45, 45, 45, 45, 45, 45, 45, 45, 45, 45, 45, 45, 45, 45, 45, 45, 45, 45, 45, 45, 45, 45, 45, 45, 45, 45, 45, 45, 45, 45, 45, 45, 45, 45, 45, 45, 45, 45, 45, 45, 45, 45, 45, 45, 45, 45, 45, 45, 45, 45, 45, 45, 45, 45, 45, 45, 45, 45, 45, 45, 45, 45, 45, 45, 45, 45, 45]), .string a0] w23 (fun v25 w31 =>
 asB v25 fun b10 =>
 K7 [.bool b10] w31) X) (
 K7 [.bool false] w23))) → K6 [.bool b2] w23) →
 cnd (iLe (IntKind.wrap .i64 (n2)) 128) (
 call P 55 [.string (bs [32, 32, 32, 32, 32, 32, 32, 32, 32, 32, 32, 32, 32, 32, 32, 32, 32, 32, 32, 32, 32, 32, 32, 32, 32, 32, 32, 32, 32, 32, 32, 32, 32, 32, 32, 32, 32, 32, 32, 32, 32, 32, 32, 32, 32, 32, 32, 32, 32, 32, 32, 32, 32, 32, 32, 32, 32, 32, 32, 32, 32, 32, 32, 32, 32, 32, 32, 32, 32, 32, 32, 32, 32, 32, 32, 32, 32, 32, 32, 32, 32, 32, 32, 32, 32, 32, 32, 32, 32, 32, 32, 32, 32, 32, 32, 32, 32, 32, 32, 32, 32, 32, 32, 32, 32, 32, 32, 32, 32, 32, 32, 32, 32, 32, 32, 32, 32, 32, 32, 32, 32, 32, 32, 32, 32, 32, 32, 32]), .string a0] w22 (fun v26 w32 =>
 asB v26 fun b11 =>
 K6 [.bool b11] w32) X) (
 K6 [.bool false] w22)) (
 K3 [] w22)) → K5 [.bool b1] w22) →
 cnd (iEq (bt a0 0) 32) (
 K5 [.bool (iEq (bt a0 0) 32)] w4) (
 cnd (iEq (bt a0 0) 45) (
 K5 [.bool (iEq (bt a0 0) 45)] w4) (
 cnd (iEq (bt a0 0) 48) (
 K5 [.bool (iEq (bt a0 0) 48)] w4) (
 cnd (iEq (bt a0 0) 61) (
 K5 [.bool (iEq (bt a0 0) 61)] w4) (
 K5 [.bool (iEq (bt a0 0) 9)] w4)))))) → K2 [] w4) →
 ∀ K11 : List Value → World → Prop, (∀ b12 w33, (∀ _ : Env,
 cnd b12 (
 runV P (Instr.panic (.iface 9 (.string (bs [115, 116, 114, 105, 110, 103, 115, 58, 32, 82, 101, 112, 101, 97, 116, 32, 111, 117, 116, 112, 117, 116, 32, 108, 101, 110, 103, 116, 104, 32, 111, 118, 101, 114, 102, 108, 111, 119])))) w33 (fun v27 w34 =>
 K2 [] w34) X) (
 K2 [] w33)) → K11 [.bool b12] w33) →
 cnd (iGt n1 0) (
 K11 [.bool true] w3) (
 K11 [.bool (iGt n2 9223372036854775807)] w3))) X) → K1 [] w1) →
 cnd (iLt a1 0) (
 runV P (Instr.panic (.iface 9 (.string (bs [115, 116, 114, 105, 110, 103, 115, 58, 32, 110, 101, 103, 97, 116, 105, 118, 101, 32, 82, 101, 112, 101, 97, 116, 32, 99, 111, 117, 110, 116])))) w (fun v28 w35 =>
 K1 [] w35) X) (
 K1 [] w)))
theorem strings_Repeat.ok : annOk Tryz.f37 strings_Repeat.ann (Tryz.f37.body.getD .skip) 2 = true := by kernel_rfl
theorem strings_Repeat.eq {a0 : ByteArray} {a1 : Int} {w : World} {K : Value → World → Prop} {X : List PanicEntry → World → Prop} : strings_Repeat.F a0 a1 w K X = vc P strings_Repeat.ann (Tryz.f37.body.getD .skip) (retQ P Tryz.f37 K X) (argE [.string a0, .int .i64 a1]) w := by kernel_rfl
theorem strings_Repeat.call {a0 : ByteArray} {a1 : Int} {w : World} {K : Value → World → Prop} {X : List PanicEntry → World → Prop} (h : strings_Repeat.F a0 a1 w K X) : call P 37 [.string a0, .int .i64 a1] w K X :=
  call_of good Tryz.func37 (c := (Tryz.f37.body.getD .skip)) (by kernel_rfl) strings_Repeat.ann strings_Repeat.ok (Eq.mp strings_Repeat.eq h)

/-- reprise/script.words -/
def script_words.ann : Ann := .seq (.reg (.op 0 [] .nil)) (.seq (.reg (.op 0 [] (.op 1 [] (.op 2 [] (.op 3 [] (.op 4 [] (.op 5 [] (.op 6 [] (.op 7 [] (.op 8 [] (.op 9 [] (.op 10 [] (.op 11 [] (.op 12 [] .nil)))))))))))))) .leaf)
def script_words.F  (w : World) (K : Value → World → Prop) (X : List PanicEntry → World → Prop) : Prop :=
 al w (.cells (#[.string (bs []), .string (bs []), .string (bs []), .string (bs []), .string (bs []), .string (bs []), .string (bs []), .string (bs []), .string (bs []), .string (bs []), .string (bs []), .string (bs []), .string (bs []), .string (bs []), .string (bs []), .string (bs []), .string (bs []), .string (bs []), .string (bs []), .string (bs []), .string (bs []), .string (bs []), .string (bs []), .string (bs [])]) 83) fun k1 w1 =>
 st w1 (⟨k1, 0, none⟩ : Addr) [.string (bs []), .string (bs []), .string (bs [112, 114, 111, 100, 117, 99, 101]), .string (bs [110, 117, 118]), .string (bs [115, 119, 105, 116, 99, 104]), .string (bs [110, 107]), .string (bs [116, 105, 99, 107]), .string (bs []), .string (bs [100, 101, 108, 105, 118, 101, 114]), .string (bs [107]), .string (bs [100, 114, 111, 112]), .string (bs [107]), .string (bs [99, 111, 112, 121]), .string (bs [107]), .string (bs [99, 117, 116]), .string (bs [110, 107]), .string (bs [99, 114, 97, 115, 104]), .string (bs [110]), .string (bs [114, 101, 115, 116, 97, 114, 116]), .string (bs [110]), .string (bs [113, 117, 101, 114, 121]), .string (bs [117]), .string (bs [114, 111, 117, 110, 100]), .string (bs [])] fun w2 =>
 ld w2 (⟨k1, 0, none⟩ : Addr) fun v1 =>
 asS v1 fun s1 =>
 ld w2 (⟨k1, 1, none⟩ : Addr) fun v2 =>
 asS v2 fun s2 =>
 ld w2 (⟨k1, 2, none⟩ : Addr) fun v3 =>
 asS v3 fun s3 =>
 ld w2 (⟨k1, 3, none⟩ : Addr) fun v4 =>
 asS v4 fun s4 =>
 ld w2 (⟨k1, 4, none⟩ : Addr) fun v5 =>
 asS v5 fun s5 =>
 ld w2 (⟨k1, 5, none⟩ : Addr) fun v6 =>
 asS v6 fun s6 =>
 ld w2 (⟨k1, 6, none⟩ : Addr) fun v7 =>
 asS v7 fun s7 =>
 ld w2 (⟨k1, 7, none⟩ : Addr) fun v8 =>
 asS v8 fun s8 =>
 ld w2 (⟨k1, 8, none⟩ : Addr) fun v9 =>
 asS v9 fun s9 =>
 ld w2 (⟨k1, 9, none⟩ : Addr) fun v10 =>
 asS v10 fun s10 =>
 ld w2 (⟨k1, 10, none⟩ : Addr) fun v11 =>
 asS v11 fun s11 =>
 ld w2 (⟨k1, 11, none⟩ : Addr) fun v12 =>
 asS v12 fun s12 =>
 ld w2 (⟨k1, 12, none⟩ : Addr) fun v13 =>
 asS v13 fun s13 =>
 ld w2 (⟨k1, 13, none⟩ : Addr) fun v14 =>
 asS v14 fun s14 =>
 ld w2 (⟨k1, 14, none⟩ : Addr) fun v15 =>
 asS v15 fun s15 =>
 ld w2 (⟨k1, 15, none⟩ : Addr) fun v16 =>
 asS v16 fun s16 =>
 ld w2 (⟨k1, 16, none⟩ : Addr) fun v17 =>
 asS v17 fun s17 =>
 ld w2 (⟨k1, 17, none⟩ : Addr) fun v18 =>
 asS v18 fun s18 =>
 ld w2 (⟨k1, 18, none⟩ : Addr) fun v19 =>
 asS v19 fun s19 =>
 ld w2 (⟨k1, 19, none⟩ : Addr) fun v20 =>
 asS v20 fun s20 =>
 ld w2 (⟨k1, 20, none⟩ : Addr) fun v21 =>
 asS v21 fun s21 =>
 ld w2 (⟨k1, 21, none⟩ : Addr) fun v22 =>
 asS v22 fun s22 =>
 ld w2 (⟨k1, 22, none⟩ : Addr) fun v23 =>
 asS v23 fun s23 =>
 ld w2 (⟨k1, 23, none⟩ : Addr) fun v24 =>
 asS v24 fun s24 =>
 K (.agg #[.string s1, .string s2, .string s3, .string s4, .string s5, .string s6, .string s7, .string s8, .string s9, .string s10, .string s11, .string s12, .string s13, .string s14, .string s15, .string s16, .string s17, .string s18, .string s19, .string s20, .string s21, .string s22, .string s23, .string s24]) w2
theorem script_words.ok : annOk Tryz.f38 script_words.ann (Tryz.f38.body.getD .skip) 0 = true := by kernel_rfl
theorem script_words.eq  {w : World} {K : Value → World → Prop} {X : List PanicEntry → World → Prop} : script_words.F  w K X = vc P script_words.ann (Tryz.f38.body.getD .skip) (retQ P Tryz.f38 K X) (argE []) w := by kernel_rfl
theorem script_words.call  {w : World} {K : Value → World → Prop} {X : List PanicEntry → World → Prop} (h : script_words.F  w K X) : call P 38 [] w K X :=
  call_of good Tryz.func38 (c := (Tryz.f38.body.getD .skip)) (by kernel_rfl) script_words.ann script_words.ok (Eq.mp script_words.eq h)

/-- reprise/repriseref04.Text -/
def repriseref04_Text.ann : Ann := .seq (.reg (.op 0 [] (.op 1 [] .nil))) (.seq (.seq (.reg (.op 0 [] (.op 1 [] (.op 2 [] .nil)))) (.cond (.seq (.reg (.op 0 [] .nil)) .leaf) .leaf)) (.seq (.reg (.op 0 [] (.op 1 [] (.op 2 [] (.op 3 [] .nil))))) (.seq (.seq (.reg (.op 0 [] (.op 1 [] (.op 2 [] .nil)))) (.cond (.seq (.reg (.op 0 [] .nil)) .leaf) .leaf)) (.seq (.seq (.reg (.op 0 [] (.op 1 [] .nil))) (.cond (.seq (.reg (.op 0 [] (.op 1 [] (.op 2 [] (.op 3 [] .nil))))) .leaf) .leaf)) (.seq (.seq (.reg (.op 0 [] (.op 1 [] .nil))) (.cond (.seq (.seq (.reg (.op 0 [] (.op 1 [] (.op 2 [] .nil)))) (.cond (.seq (.reg (.op 0 [] (.op 1 [] (.op 2 [] (.op 3 [] (.op 4 [] (.op 5 [] .nil))))))) .leaf) .leaf)) (.seq (.reg (.op 0 [] (.op 1 [] (.op 2 [] (.op 3 [] .nil))))) .leaf)) .leaf)) (.seq (.reg (.op 0 [] .nil)) (.seq (.reg (.op 0 [] .nil)) (.seq (.seq (.reg (.op 0 [] .nil)) (.blk (.loop 18014329790005696 [(6, .leaf (.str)), (7, .leaf (.int .i64))] (.seq (.seq (.reg (.op 0 [] (.op 1 [] .nil))) (.cond .leaf .leaf)) (.seq (.blk (.seq (.reg (.op 0 [] (.op 1 [] (.op 2 [] (.op 3 [] (.op 4 [] (.op 5 [] (.op 6 [] (.op 7 [] .nil))))))))) (.reg (.op 0 [] (.op 1 [] (.op 2 [] (.op 3 [] (.op 4 [] (.op 5 [] (.op 6 [] (.op 7 [] .nil))))))))))) (.reg (.op 0 [] (.op 1 [] (.op 2 [] .nil))))))))) (.seq (.reg (.op 0 [] (.op 1 [] .nil))) .leaf)))))))))
def repriseref04_Text.F (a0 : Int) (a1_0 : Bool) (a1_1 : Int) (w : World) (K : Value → World → Prop) (X : List PanicEntry → World → Prop) : Prop :=
 al w (.cells (#[.bool a1_0, .int .u64 a1_1]) 88) fun k1 w1 =>
 call P 57 [.int .i64 a0] w1 (fun v1 w2 =>
 asB v1 fun b1 =>
 cnd (!b1) (
 K (.string (bs [])) w2) (
 ld w2 (⟨k1, 0, none⟩ : Addr) fun v2 =>
 asB v2 fun b2 =>
 ld w2 (⟨k1, 1, none⟩ : Addr) fun v3 =>
 asI .u64 v3 fun n1 =>
 call P 58 [.int .i64 a0, .agg #[.bool b2, .int .u64 n1]] w2 (fun v4 w3 =>
 agN 2 v4 (fun v5 v6 => show Prop from
 asB v5 fun b3 =>
 asI .u64 v6 fun n2 =>
 st w3 (⟨k1, 0, none⟩ : Addr) [.bool b3, .int .u64 n2] fun w4 =>
 ld w4 (⟨k1, 0, none⟩ : Addr) fun v7 =>
 asB v7 fun b4 =>
 cnd (!b4) (
 K (.string (bs [45])) w4) (
 cnd (iEq a0 1) (
 ld w4 (⟨k1, 1, none⟩ : Addr) fun v8 =>
 asI .u64 v8 fun n3 =>
 call P 59 [.int .u64 n3] w4 (fun v9 w5 =>
 asS v9 fun s1 =>
 K (.string s1) w5) X) (
 cnd (iEq a0 2) (
 ld w4 (⟨k1, 1, none⟩ : Addr) fun v10 =>
 asI .u64 v10 fun n4 =>
 cnd (iGe n4 9223372036854775808) (
 ld w4 (⟨k1, 1, none⟩ : Addr) fun v11 =>
 asI .u64 v11 fun n5 =>
 call P 59 [.int .u64 (iSub .u64 0 n5)] w4 (fun v12 w6 =>
 asS v12 fun s2 =>
 catOk (bs [45]) s2 ∧
 K (.string (cat (bs [45]) s2)) w6) X) (
 ld w4 (⟨k1, 1, none⟩ : Addr) fun v13 =>
 asI .u64 v13 fun n6 =>
 call P 59 [.int .u64 n6] w4 (fun v14 w7 =>
 asS v14 fun s3 =>
 K (.string s3) w7) X)) (
 ∀ L1 : List Value → World → Prop, (∀ s4 n7 w8, (∀ _ : Env,
 cnd (iLt n7 16) (
 ld w8 (⟨k1, 1, none⟩ : Addr) fun v15 =>
 asI .u64 v15 fun n8 =>
 nng (IntKind.wrap .u64 (iMul .i64 4 n7)) ∧
 nz 16 ∧
 inC (iAdd .u64 (iRem (iShr .u64 n8 (IntKind.wrap .u64 (iMul .i64 4 n7))) 16) 1) (ByteArray.size (bs [48, 49, 50, 51, 52, 53, 54, 55, 56, 57, 97, 98, 99, 100, 101, 102])) ∧
 inC (iRem (iShr .u64 n8 (IntKind.wrap .u64 (iMul .i64 4 n7))) 16) (Int.toNat (iAdd .u64 (iRem (iShr .u64 n8 (IntKind.wrap .u64 (iMul .i64 4 n7))) 16) 1)) ∧
 catOk (cutS (bs [48, 49, 50, 51, 52, 53, 54, 55, 56, 57, 97, 98, 99, 100, 101, 102]) (Int.toNat (iRem (iShr .u64 n8 (IntKind.wrap .u64 (iMul .i64 4 n7))) 16)) (Int.toNat (iAdd .u64 (iRem (iShr .u64 n8 (IntKind.wrap .u64 (iMul .i64 4 n7))) 16) 1))) s4 ∧
 L1 [.string (cat (cutS (bs [48, 49, 50, 51, 52, 53, 54, 55, 56, 57, 97, 98, 99, 100, 101, 102]) (Int.toNat (iRem (iShr .u64 n8 (IntKind.wrap .u64 (iMul .i64 4 n7))) 16)) (Int.toNat (iAdd .u64 (iRem (iShr .u64 n8 (IntKind.wrap .u64 (iMul .i64 4 n7))) 16) 1))) s4), .int .i64 (iAdd .i64 n7 1)] w8) (
 K (.string s4) w8)) → L1 [.string s4, .int .i64 n7] w8) → L1 [.string (bs []), .int .i64 0] w4))))) X)) X
theorem repriseref04_Text.ok : annOk Tryz.f39 repriseref04_Text.ann (Tryz.f39.body.getD .skip) 2 = true := by kernel_rfl
theorem repriseref04_Text.eq {a0 : Int} {a1_0 : Bool} {a1_1 : Int} {w : World} {K : Value → World → Prop} {X : List PanicEntry → World → Prop} : repriseref04_Text.F a0 a1_0 a1_1 w K X = vc P repriseref04_Text.ann (Tryz.f39.body.getD .skip) (retQ P Tryz.f39 K X) (argE [.int .i64 a0, .agg #[.bool a1_0, .int .u64 a1_1]]) w := by kernel_rfl
theorem repriseref04_Text.call {a0 : Int} {a1_0 : Bool} {a1_1 : Int} {w : World} {K : Value → World → Prop} {X : List PanicEntry → World → Prop} (h : repriseref04_Text.F a0 a1_0 a1_1 w K X) : call P 39 [.int .i64 a0, .agg #[.bool a1_0, .int .u64 a1_1]] w K X :=
  call_of good Tryz.func39 (c := (Tryz.f39.body.getD .skip)) (by kernel_rfl) repriseref04_Text.ann repriseref04_Text.ok (Eq.mp repriseref04_Text.eq h)

/-- reprise/repriseraw.Bits -/
def repriseraw_Bits.ann : Ann := .seq (.reg (.op 0 [] .nil)) (.seq (.reg (.op 0 [] (.op 1 [] (.op 2 [] .nil)))) .leaf)
def repriseraw_Bits.F (a0 : Nat) (w : World) (K : Value → World → Prop) (X : List PanicEntry → World → Prop) : Prop :=
 callX P 36 [.float .f64 a0] w (fun v1 w1 =>
 asI .u64 v1 fun n1 =>
 K (.int .u64 n1) w1) X
theorem repriseraw_Bits.ok : annOk Tryz.f40 repriseraw_Bits.ann (Tryz.f40.body.getD .skip) 1 = true := by kernel_rfl
theorem repriseraw_Bits.eq {a0 : Nat} {w : World} {K : Value → World → Prop} {X : List PanicEntry → World → Prop} : repriseraw_Bits.F a0 w K X = vc P repriseraw_Bits.ann (Tryz.f40.body.getD .skip) (retQ P Tryz.f40 K X) (argE [.float .f64 a0]) w := by kernel_rfl
theorem repriseraw_Bits.call {a0 : Nat} {w : World} {K : Value → World → Prop} {X : List PanicEntry → World → Prop} (h : repriseraw_Bits.F a0 w K X) : call P 40 [.float .f64 a0] w K X :=
  call_of good Tryz.func40 (c := (Tryz.f40.body.getD .skip)) (by kernel_rfl) repriseraw_Bits.ann repriseraw_Bits.ok (Eq.mp repriseraw_Bits.eq h)

/-- reprise/repriseref21.word -/
def repriseref21_word.ann : Ann := .seq (.reg (.op 0 [] .nil)) (.seq (.reg (.op 0 [] (.op 1 [] (.op 2 [] .nil)))) (.seq (.seq (.reg (.op 0 [] (.op 1 [] (.op 2 [] (.split 7 (.op 3 [] (.op 4 [] (.op 5 [] .nil))) 1792 [(10, .leaf (.bool))] .nil))))) (.cond (.seq (.reg (.op 0 [] .nil)) .leaf) .leaf)) (.seq (.reg (.op 0 [] (.op 1 [] (.op 2 [] (.op 3 [] (.op 4 [] .nil)))))) .leaf)))
def repriseref21_word.F (a0 : Int) (w : World) (K : Value → World → Prop) (X : List PanicEntry → World → Prop) : Prop :=
 al w (.cells (#[.string (bs []), .string (bs []), .string (bs []), .string (bs []), .string (bs []), .string (bs []), .string (bs []), .string (bs []), .string (bs []), .string (bs []), .string (bs [])]) 114) fun k1 w1 =>
 st w1 (⟨k1, 0, none⟩ : Addr) [.string (bs [112, 114, 111, 100, 117, 99, 101]), .string (bs [115, 119, 105, 116, 99, 104]), .string (bs [116, 105, 99, 107]), .string (bs [100, 101, 108, 105, 118, 101, 114]), .string (bs [100, 114, 111, 112]), .string (bs [99, 111, 112, 121]), .string (bs [99, 117, 116]), .string (bs [99, 114, 97, 115, 104]), .string (bs [114, 101, 115, 116, 97, 114, 116]), .string (bs [113, 117, 101, 114, 121]), .string (bs [114, 111, 117, 110, 100])] fun w2 =>
 ∀ K1 : List Value → World → Prop, (∀ b1 w3, (∀ _ : Env,
 cnd b1 (
 K (.string (bs [])) w3) (
 inB (iSub .i64 a0 1) 11 ∧
 ∀ d1, d1 = Addr.add (⟨k1, 0, none⟩ : Addr) (scale (Int.toNat (iSub .i64 a0 1)) 1) →
 ld w3 d1 fun v1 =>
 asS v1 fun s1 =>
 K (.string s1) w3)) → K1 [.bool b1] w3) →
 cnd (iLt a0 1) (
 K1 [.bool true] w2) (
 K1 [.bool (iGt a0 11)] w2)
theorem repriseref21_word.ok : annOk Tryz.f41 repriseref21_word.ann (Tryz.f41.body.getD .skip) 1 = true := by kernel_rfl
theorem repriseref21_word.eq {a0 : Int} {w : World} {K : Value → World → Prop} {X : List PanicEntry → World → Prop} : repriseref21_word.F a0 w K X = vc P repriseref21_word.ann (Tryz.f41.body.getD .skip) (retQ P Tryz.f41 K X) (argE [.int .i64 a0]) w := by kernel_rfl
theorem repriseref21_word.call {a0 : Int} {w : World} {K : Value → World → Prop} {X : List PanicEntry → World → Prop} (h : repriseref21_word.F a0 w K X) : call P 41 [.int .i64 a0] w K X :=
  call_of good Tryz.func41 (c := (Tryz.f41.body.getD .skip)) (by kernel_rfl) repriseref21_word.ann repriseref21_word.ok (Eq.mp repriseref21_word.eq h)

/-- reprise/repriseref21.asks -/
def repriseref21_asks.ann : Ann := .seq (.reg (.op 0 [] (.op 1 [] .nil))) (.seq (.seq (.reg (.op 0 [] .nil)) (.blk (.seq (.reg (.op 0 [] (.op 1 [] .nil))) (.cond (.seq (.reg (.op 0 [] (.op 1 [] .nil))) .leaf) (.seq (.reg (.op 0 [] (.op 1 [] .nil))) (.cond (.seq (.reg (.op 0 [] (.op 1 [] .nil))) .leaf) (.seq (.reg (.op 0 [] (.op 1 [] .nil))) (.cond (.seq (.reg (.op 0 [] (.op 1 [] .nil))) .leaf) (.seq (.reg (.op 0 [] (.op 1 [] .nil))) (.cond (.seq (.reg (.op 0 [] (.op 1 [] .nil))) .leaf) (.seq (.reg (.op 0 [] (.op 1 [] .nil))) (.cond (.seq (.reg (.op 0 [] (.op 1 [] .nil))) .leaf) (.seq (.reg (.op 0 [] (.op 1 [] .nil))) (.cond (.seq (.reg (.op 0 [] (.op 1 [] .nil))) .leaf) (.seq (.reg (.op 0 [] (.op 1 [] .nil))) (.cond (.seq (.reg (.op 0 [] (.op 1 [] .nil))) .leaf) (.seq (.reg (.op 0 [] (.op 1 [] .nil))) (.cond (.seq (.reg (.op 0 [] (.op 1 [] .nil))) .leaf) (.seq (.reg (.op 0 [] (.op 1 [] .nil))) (.cond (.seq (.reg (.op 0 [] (.op 1 [] .nil))) .leaf) (.seq (.reg (.op 0 [] (.op 1 [] .nil))) (.cond (.seq (.reg (.op 0 [] (.op 1 [] .nil))) .leaf) (.seq (.reg (.op 0 [] (.op 1 [] .nil))) (.cond (.seq (.reg (.op 0 [] (.op 1 [] .nil))) .leaf) .leaf)))))))))))))))))))))))) (.seq (.reg (.op 0 [] (.op 1 [] .nil))) .leaf))
def repriseref21_asks.F (a0 : ByteArray) (w : World) (K : Value → World → Prop) (X : List PanicEntry → World → Prop) : Prop :=
 cnd (sEq a0 (bs [112, 114, 111, 100, 117, 99, 101])) (
 K (.tuple #[.string (bs [110, 117, 118]), .int .i64 1]) w) (
 cnd (sEq a0 (bs [115, 119, 105, 116, 99, 104])) (
 K (.tuple #[.string (bs [110, 107]), .int .i64 2]) w) (
 cnd (sEq a0 (bs [116, 105, 99, 107])) (
 K (.tuple #[.string (bs []), .int .i64 3]) w) (
 cnd (sEq a0 (bs [100, 101, 108, 105, 118, 101, 114])) (
 K (.tuple #[.string (bs [107]), .int .i64 4]) w) (
 cnd (sEq a0 (bs [100, 114, 111, 112])) (
 K (.tuple #[.string (bs [107]), .int .i64 5]) w) (
 cnd (sEq a0 (bs [99, 111, 112, 121])) (
 K (.tuple #[.string (bs [107]), .int .i64 6]) w) (
 cnd (sEq a0 (bs [99, 117, 116])) (
 K (.tuple #[.string (bs [110, 107]), .int .i64 7]) w) (
 cnd (sEq a0 (bs [99, 114, 97, 115, 104])) (
 K (.tuple #[.string (bs [110]), .int .i64 8]) w) (
 cnd (sEq a0 (bs [114, 101, 115, 116, 97, 114, 116])) (
 K (.tuple #[.string (bs [110]), .int .i64 9]) w) (
 cnd (sEq a0 (bs [113, 117, 101, 114, 121])) (
 K (.tuple #[.string (bs [117]), .int .i64 10]) w) (
 cnd (sEq a0 (bs [114, 111, 117, 110, 100])) (
 K (.tuple #[.string (bs []), .int .i64 11]) w) (
 K (.tuple #[.string (bs []), .int .i64 0]) w)))))))))))
theorem repriseref21_asks.ok : annOk Tryz.f42 repriseref21_asks.ann (Tryz.f42.body.getD .skip) 1 = true := by kernel_rfl
theorem repriseref21_asks.eq {a0 : ByteArray} {w : World} {K : Value → World → Prop} {X : List PanicEntry → World → Prop} : repriseref21_asks.F a0 w K X = vc P repriseref21_asks.ann (Tryz.f42.body.getD .skip) (retQ P Tryz.f42 K X) (argE [.string a0]) w := by kernel_rfl
theorem repriseref21_asks.call {a0 : ByteArray} {w : World} {K : Value → World → Prop} {X : List PanicEntry → World → Prop} (h : repriseref21_asks.F a0 w K X) : call P 42 [.string a0] w K X :=
  call_of good Tryz.func42 (c := (Tryz.f42.body.getD .skip)) (by kernel_rfl) repriseref21_asks.ann repriseref21_asks.ok (Eq.mp repriseref21_asks.eq h)

/-- strings.splitSeq -/
def strings_splitSeq.ann : Ann := .seq (.reg (.op 0 [] (.op 1 [] (.op 2 [] (.op 3 [] .nil))))) (.seq (.reg (.op 0 [] (.op 1 [] .nil))) .leaf)
def strings_splitSeq.F (a0 : ByteArray) (a1 : ByteArray) (a2 : Int) (w : World) (K : Value → World → Prop) (X : List PanicEntry → World → Prop) : Prop :=
 al w (.cells (#[.string a0]) 9) fun k1 w1 =>
 al w1 (.cells (#[.string a1]) 9) fun k2 w2 =>
 al w2 (.cells (#[.int .i64 a2]) 3) fun k3 w3 =>
 K (.func (.func 60) #[] #[.pointer (some ⟨k2, 0, none⟩), .pointer (some ⟨k1, 0, none⟩), .pointer (some ⟨k3, 0, none⟩)]) w3
theorem strings_splitSeq.ok : annOk Tryz.f43 strings_splitSeq.ann (Tryz.f43.body.getD .skip) 3 = true := by kernel_rfl
theorem strings_splitSeq.eq {a0 : ByteArray} {a1 : ByteArray} {a2 : Int} {w : World} {K : Value → World → Prop} {X : List PanicEntry → World → Prop} : strings_splitSeq.F a0 a1 a2 w K X = vc P strings_splitSeq.ann (Tryz.f43.body.getD .skip) (retQ P Tryz.f43 K X) (argE [.string a0, .string a1, .int .i64 a2]) w := by kernel_rfl
theorem strings_splitSeq.call {a0 : ByteArray} {a1 : ByteArray} {a2 : Int} {w : World} {K : Value → World → Prop} {X : List PanicEntry → World → Prop} (h : strings_splitSeq.F a0 a1 a2 w K X) : call P 43 [.string a0, .string a1, .int .i64 a2] w K X :=
  call_of good Tryz.func43 (c := (Tryz.f43.body.getD .skip)) (by kernel_rfl) strings_splitSeq.ann strings_splitSeq.ok (Eq.mp strings_splitSeq.eq h)

/-- reprise/script.number -/
def script_number.ann : Ann := .seq (.reg (.op 0 [] .nil)) (.seq (.reg (.op 0 [] (.op 1 [] (.op 2 [] (.op 3 [] (.op 4 [] (.op 5 [] (.op 6 [] .nil)))))))) (.seq (.reg (.op 0 [] (.op 1 [] (.op 2 [] (.split 12 (.op 3 [] (.op 4 [] (.op 5 [] (.op 6 [] (.op 7 [] .nil))))) 253952 [(17, .leaf (.bool))] (.op 8 [] .nil)))))) (.seq (.reg (.op 0 [] (.op 1 [] .nil))) .leaf)))
def script_number.F (a0 : ByteArray) (w : World) (K : Value → World → Prop) (X : List PanicEntry → World → Prop) : Prop :=
 call P 64 [.string a0, .int .i64 10, .int .i64 64] w (fun v1 w1 =>
 tuN 2 v1 (fun v2 v3 => show Prop from
 asI .i64 v2 fun n1 =>
 ifOk v3 = true ∧
 ∀ K1 : List Value → World → Prop, (∀ b1 w2, (∀ _ : Env,
 call P 30 [.bool b1, .int .i64 211] w2 (fun v4 w3 =>
 tuN 0 v4 (K (.int .i64 n1) w3)) X) → K1 [.bool b1] w2) →
 cnd (nb false (nilI v3)) (
 call P 20 [.int .i64 n1, .int .i64 10] w1 (fun v5 w4 =>
 asS v5 fun s1 =>
 K1 [.bool (sEq s1 a0)] w4) X) (
 K1 [.bool false] w1))) X
theorem script_number.ok : annOk Tryz.f45 script_number.ann (Tryz.f45.body.getD .skip) 1 = true := by kernel_rfl
theorem script_number.eq {a0 : ByteArray} {w : World} {K : Value → World → Prop} {X : List PanicEntry → World → Prop} : script_number.F a0 w K X = vc P script_number.ann (Tryz.f45.body.getD .skip) (retQ P Tryz.f45 K X) (argE [.string a0]) w := by kernel_rfl
theorem script_number.call {a0 : ByteArray} {w : World} {K : Value → World → Prop} {X : List PanicEntry → World → Prop} (h : script_number.F a0 w K X) : call P 45 [.string a0] w K X :=
  call_of good Tryz.func45 (c := (Tryz.f45.body.getD .skip)) (by kernel_rfl) script_number.ann script_number.ok (Eq.mp script_number.eq h)

/-- reprise/script.float -/
def script_float.ann : Ann := .seq (.reg (.op 0 [] .nil)) (.seq (.reg (.op 0 [] (.op 1 [] (.op 2 [] (.op 3 [] (.split 8 (.op 4 [] (.op 5 [] (.op 6 [] (.op 7 [] .nil)))) 7680 [(12, .leaf (.bool))] (.op 8 [] .nil))))))) (.seq (.reg (.op 0 [] (.op 1 [] (.op 2 [] (.op 3 [] (.op 4 [] (.op 5 [] (.op 6 [] .nil)))))))) (.seq (.reg (.op 0 [] (.op 1 [] (.op 2 [] .nil)))) (.seq (.reg (.op 0 [] (.op 1 [] (.op 2 [] .nil)))) .leaf))))
def script_float.F (a0 : ByteArray) (w : World) (K : Value → World → Prop) (X : List PanicEntry → World → Prop) : Prop :=
 ∀ K1 : List Value → World → Prop, (∀ b1 w2, (∀ _ : Env,
 call P 30 [.bool b1, .int .i64 211] w2 (fun v2 w3 =>
 tuN 0 v2 (call P 66 [.string a0, .int .i64 16, .int .i64 64] w3 (fun v3 w4 =>
 tuN 2 v3 (fun v4 v5 => show Prop from
 asI .u64 v4 fun n1 =>
 ifOk v5 = true ∧
 call P 30 [.bool (nb false (nilI v5)), .int .i64 211] w4 (fun v6 w5 =>
 tuN 0 v6 (callX P 67 [.int .u64 n1] w5 (fun v7 w6 =>
 asF .f64 v7 fun x1 =>
 K (.float .f64 x1) w6) X)) X)) X)) X) → K1 [.bool b1] w2) →
 cnd (iEq (lenN (ByteArray.size a0)) 16) (
 call P 65 [.string a0, .string (bs [48, 49, 50, 51, 52, 53, 54, 55, 56, 57, 97, 98, 99, 100, 101, 102])] w (fun v8 w7 =>
 asS v8 fun s1 =>
 K1 [.bool (sEq s1 (bs []))] w7) X) (
 K1 [.bool false] w)
theorem script_float.ok : annOk Tryz.f46 script_float.ann (Tryz.f46.body.getD .skip) 1 = true := by kernel_rfl
theorem script_float.eq {a0 : ByteArray} {w : World} {K : Value → World → Prop} {X : List PanicEntry → World → Prop} : script_float.F a0 w K X = vc P script_float.ann (Tryz.f46.body.getD .skip) (retQ P Tryz.f46 K X) (argE [.string a0]) w := by kernel_rfl
theorem script_float.call {a0 : ByteArray} {w : World} {K : Value → World → Prop} {X : List PanicEntry → World → Prop} (h : script_float.F a0 w K X) : call P 46 [.string a0] w K X :=
  call_of good Tryz.func46 (c := (Tryz.f46.body.getD .skip)) (by kernel_rfl) script_float.ann script_float.ok (Eq.mp script_float.eq h)

/-- reprise/script.step -/
def script_step.ann : Ann := .seq (.reg (.op 0 [] .nil)) (.seq (.seq (.reg (.op 0 [] (.op 1 [] .nil))) (.blk (.loop 75557863725914323418080 [(11, .leaf (.int .i64))] (.seq (.reg (.op 0 [] .nil)) (.seq (.cond .leaf .leaf) (.seq (.blk (.seq (.reg (.op 0 [] (.op 1 [] (.op 2 [] (.op 3 [] (.op 4 [] .nil)))))) (.seq (.seq (.reg (.op 0 [] (.op 1 [] (.op 2 [] (.op 3 [] (.op 4 [] (.split 19 (.op 5 [] (.op 6 [] (.op 7 [] .nil))) 7340032 [(22, .leaf (.bool))] .nil))))))) (.cond .leaf .leaf)) (.seq (.reg (.op 0 [] (.op 1 [] (.op 2 [] (.op 3 [] (.op 4 [] (.op 5 [] (.op 6 [] .nil)))))))) (.seq (.reg (.op 0 [] (.op 1 [] (.op 2 [] (.op 3 [] .nil))))) (.seq (.seq (.reg (.op 0 [] (.op 1 [] (.op 2 [] .nil)))) (.blk (.loop 18889465931444221117184 [] (.seq (.reg (.op 0 [] (.op 1 [] .nil))) (.seq (.cond .leaf .leaf) (.blk (.seq (.reg (.op 0 [] (.op 1 [] (.op 2 [] (.op 3 [] .nil))))) (.seq (.reg (.op 0 [] .nil)) (.blk (.seq (.reg (.op 0 [] (.op 1 [] .nil))) (.cond (.reg (.op 0 [] (.op 1 [] (.op 2 [] (.op 3 [] (.op 4 [] (.op 5 [] (.op 6 [] .nil)))))))) (.seq (.reg (.op 0 [] (.op 1 [] .nil))) (.cond (.reg (.op 0 [] (.op 1 [] (.op 2 [] (.op 3 [] (.op 4 [] (.op 5 [] (.op 6 [] .nil)))))))) (.seq (.reg (.op 0 [] (.op 1 [] .nil))) (.cond (.reg (.op 0 [] (.op 1 [] (.op 2 [] (.op 3 [] (.op 4 [] (.op 5 [] (.op 6 [] (.op 7 [] .nil))))))))) (.seq (.reg (.op 0 [] (.op 1 [] .nil))) (.cond (.reg (.op 0 [] (.op 1 [] (.op 2 [] (.op 3 [] (.op 4 [] (.op 5 [] (.op 6 [] (.op 7 [] .nil))))))))) .leaf))))))))))))))))) (.seq (.reg (.op 0 [] (.op 1 [] .nil))) .leaf))))))) (.reg (.op 0 [] (.op 1 [] .nil))))))))) (.seq (.reg (.op 0 [] .nil)) (.seq (.reg (.op 0 [] (.op 1 [] .nil))) .leaf)))
def script_step.F (a0 : ByteArray) (a1 : Option Addr) (a1l : Nat) (a1c : Nat) (w : World) (K : Value → World → Prop) (X : List PanicEntry → World → Prop) : Prop :=
 al w (.cells (#[.int .i64 0, .int .i64 0, .int .i64 0, .int .u64 0, .float .f64 0]) 46) fun k1 w1 =>
 call P 38 [] w1 (fun v1 w2 =>
 agN 24 v1 (fun v2 v3 v4 v5 v6 v7 v8 v9 v10 v11 v12 v13 v14 v15 v16 v17 v18 v19 v20 v21 v22 v23 v24 v25 => show Prop from
 asS v2 fun s1 =>
 asS v3 fun s2 =>
 asS v4 fun s3 =>
 asS v5 fun s4 =>
 asS v6 fun s5 =>
 asS v7 fun s6 =>
 asS v8 fun s7 =>
 asS v9 fun s8 =>
 asS v10 fun s9 =>
 asS v11 fun s10 =>
 asS v12 fun s11 =>
 asS v13 fun s12 =>
 asS v14 fun s13 =>
 asS v15 fun s14 =>
 asS v16 fun s15 =>
 asS v17 fun s16 =>
 asS v18 fun s17 =>
 asS v19 fun s18 =>
 asS v20 fun s19 =>
 asS v21 fun s20 =>
 asS v22 fun s21 =>
 asS v23 fun s22 =>
 asS v24 fun s23 =>
 asS v25 fun s24 =>
 ∀ L1 : List Value → World → Prop, (∀ n1 w3, (∀ _ : Env,
 cnd (iLt n1 12) (
 inB n1 12 ∧
 agN 2 (.agg (Array.extract (#[.string s1, .string s2, .string s3, .string s4, .string s5, .string s6, .string s7, .string s8, .string s9, .string s10, .string s11, .string s12, .string s13, .string s14, .string s15, .string s16, .string s17, .string s18, .string s19, .string s20, .string s21, .string s22, .string s23, .string s24] : Array Value) (scale (Int.toNat n1) 2) (scale (Int.toNat n1) 2 + 2))) (fun v26 v27 => show Prop from
 asS v26 fun s25 =>
 asS v27 fun s26 =>
 al w3 (.cells (#[.string (bs []), .string (bs [])]) 82) fun k2 w4 =>
 st w4 (⟨k2, 0, none⟩ : Addr) [.string s25, .string s26] fun w5 =>
 inB 0 2 ∧
 ∀ d1, d1 = Addr.add (⟨k2, 0, none⟩ : Addr) (scale (Int.toNat 0) 1) →
 ld w5 d1 fun v28 =>
 asS v28 fun s27 =>
 ∀ K1 : List Value → World → Prop, (∀ b1 w6, (∀ _ : Env,
 cnd b1 (
 L1 [.int .i64 (iAdd .i64 n1 1)] w6) (
 inB 1 2 ∧
 ∀ d2, d2 = Addr.add (⟨k2, 0, none⟩ : Addr) (scale (Int.toNat 1) 1) →
 ld w6 d2 fun v30 =>
 asS v30 fun s28 =>
 call P 30 [.bool (iEq (lenN a1l) (lenN (ByteArray.size s28))), .int .i64 211] w6 (fun v32 w9 =>
 tuN 0 v32 (al w9 (.cells (#[.int .i64 0, .int .i64 0, .int .i64 0, .int .u64 0, .float .f64 0]) 46) fun k3 w10 =>
 st w10 (⟨k3, 0, none⟩ : Addr) [.int .i64 n1, .int .i64 0, .int .i64 0, .int .u64 0, .float .f64 0] fun w11 =>
 inB 1 2 ∧
 ∀ d3, d3 = Addr.add (⟨k2, 0, none⟩ : Addr) (scale (Int.toNat 1) 1) →
 ld w11 d3 fun v33 =>
 asS v33 fun s29 =>
 runV P (Instr.range 9 (.string s29)) w11 (fun v34 w12 =>
 ∀ L2 : List Value → World → Prop, (∀ w13, (∀ _ : Env,
 runV P (Instr.next (v34) true 0) w13 (fun v35 w14 =>
 nxt v35 (fun v36 v37 => show Prop from
 asI .i64 v36 fun n2 =>
 asI .i32 v37 fun n3 =>
 cnd (iEq n3 110) (
 inB n2 a1l ∧ nn a1 fun d5 =>
 ∀ d4, d4 = Addr.add d5 (scale (Int.toNat n2) 1) →
 ld w14 d4 fun v38 =>
 asS v38 fun s30 =>
 call P 45 [.string s30] w14 (fun v39 w15 =>
 asI .i64 v39 fun n4 =>
 st w15 (⟨k3, 1, none⟩ : Addr) [.int .i64 n4] fun w16 =>
 L2 [] w16) X) (
 cnd (iEq n3 107) (
 inB n2 a1l ∧ nn a1 fun d7 =>
 ∀ d6, d6 = Addr.add d7 (scale (Int.toNat n2) 1) →
 ld w14 d6 fun v40 =>
 asS v40 fun s31 =>
 call P 45 [.string s31] w14 (fun v41 w17 =>
 asI .i64 v41 fun n5 =>
 st w17 (⟨k3, 2, none⟩ : Addr) [.int .i64 n5] fun w18 =>
 L2 [] w18) X) (
 cnd (iEq n3 117) (
 inB n2 a1l ∧ nn a1 fun d9 =>
 ∀ d8, d8 = Addr.add d9 (scale (Int.toNat n2) 1) →
 ld w14 d8 fun v42 =>
 asS v42 fun s32 =>
 call P 68 [.string s32] w14 (fun v43 w19 =>
 asI .u64 v43 fun n6 =>
 st w19 (⟨k3, 3, none⟩ : Addr) [.int .u64 n6] fun w20 =>
 L2 [] w20) X) (
 cnd (iEq n3 118) (
 inB n2 a1l ∧ nn a1 fun d11 =>
 ∀ d10, d10 = Addr.add d11 (scale (Int.toNat n2) 1) →
 ld w14 d10 fun v44 =>
 asS v44 fun s33 =>
 call P 46 [.string s33] w14 (fun v45 w21 =>
 asF .f64 v45 fun x1 =>
 st w21 (⟨k3, 4, none⟩ : Addr) [.float .f64 x1] fun w22 =>
 L2 [] w22) X) (
 L2 [] w14))))) (
 ld w14 (⟨k3, 0, none⟩ : Addr) fun v46 =>
 asI .i64 v46 fun n7 =>
 ld w14 (⟨k3, 1, none⟩ : Addr) fun v47 =>
 asI .i64 v47 fun n8 =>
 ld w14 (⟨k3, 2, none⟩ : Addr) fun v48 =>
 asI .i64 v48 fun n9 =>
 ld w14 (⟨k3, 3, none⟩ : Addr) fun v49 =>
 asI .u64 v49 fun n10 =>
 ld w14 (⟨k3, 4, none⟩ : Addr) fun v50 =>
 asF .f64 v50 fun x2 =>
 st w14 (⟨k1, 0, none⟩ : Addr) [.int .i64 n7, .int .i64 n8, .int .i64 n9, .int .u64 n10, .float .f64 x2] fun w23 =>
 ld w23 (⟨k1, 0, none⟩ : Addr) fun v51 =>
 asI .i64 v51 fun n11 =>
 ld w23 (⟨k1, 1, none⟩ : Addr) fun v52 =>
 asI .i64 v52 fun n12 =>
 ld w23 (⟨k1, 2, none⟩ : Addr) fun v53 =>
 asI .i64 v53 fun n13 =>
 ld w23 (⟨k1, 3, none⟩ : Addr) fun v54 =>
 asI .u64 v54 fun n14 =>
 ld w23 (⟨k1, 4, none⟩ : Addr) fun v55 =>
 asF .f64 v55 fun x3 =>
 K (.agg #[.int .i64 n11, .int .i64 n12, .int .i64 n13, .int .u64 n14, .float .f64 x3]) w23)) X) → L2 [] w13) → L2 [] w12) X)) X)) → K1 [.bool b1] w6) →
 cnd (sNe s27 a0) (
 K1 [.bool true] w5) (
 K1 [.bool (sEq a0 (bs []))] w5))) (
 call P 30 [.bool false, .int .i64 210] w3 (fun v56 w24 =>
 tuN 0 v56 (st w24 (⟨k1, 0, none⟩ : Addr) [.int .i64 0, .int .i64 0, .int .i64 0, .int .u64 0, .float .f64 0] fun w25 =>
 ld w25 (⟨k1, 0, none⟩ : Addr) fun v57 =>
 asI .i64 v57 fun n15 =>
 ld w25 (⟨k1, 1, none⟩ : Addr) fun v58 =>
 asI .i64 v58 fun n16 =>
 ld w25 (⟨k1, 2, none⟩ : Addr) fun v59 =>
 asI .i64 v59 fun n17 =>
 ld w25 (⟨k1, 3, none⟩ : Addr) fun v60 =>
 asI .u64 v60 fun n18 =>
 ld w25 (⟨k1, 4, none⟩ : Addr) fun v61 =>
 asF .f64 v61 fun x4 =>
 K (.agg #[.int .i64 n15, .int .i64 n16, .int .i64 n17, .int .u64 n18, .float .f64 x4]) w25)) X)) → L1 [.int .i64 n1] w3) → L1 [.int .i64 0] w2)) X
theorem script_step.ok : annOk Tryz.f47 script_step.ann (Tryz.f47.body.getD .skip) 2 = true := by kernel_rfl
theorem script_step.eq {a0 : ByteArray} {a1 : Option Addr} {a1l : Nat} {a1c : Nat} {w : World} {K : Value → World → Prop} {X : List PanicEntry → World → Prop} : script_step.F a0 a1 a1l a1c w K X = vc P script_step.ann (Tryz.f47.body.getD .skip) (retQ P Tryz.f47 K X) (argE [.string a0, .slice a1 a1l a1c]) w := by kernel_rfl
theorem script_step.call {a0 : ByteArray} {a1 : Option Addr} {a1l : Nat} {a1c : Nat} {w : World} {K : Value → World → Prop} {X : List PanicEntry → World → Prop} (h : script_step.F a0 a1 a1l a1c w K X) : call P 47 [.string a0, .slice a1 a1l a1c] w K X :=
  call_of good Tryz.func47 (c := (Tryz.f47.body.getD .skip)) (by kernel_rfl) script_step.ann script_step.ok (Eq.mp script_step.eq h)

/-- internal/strconv.formatBits -/
def strconv_formatBits.ann : Ann := .seq (.reg (.op 0 [] (.op 1 [] .nil))) (.seqJ 1073217536 [] (.seq (.reg (.op 0 [] (.op 1 [] (.op 2 [] (.split 21 (.op 3 [] (.op 4 [] (.op 5 [] .nil))) 29360128 [(24, .leaf (.bool))] (.op 6 [] (.split 25 (.op 7 [] (.op 8 [] (.op 9 [] .nil))) 469762048 [(28, .leaf (.bool))] .nil))))))) (.cond (.reg (.op 0 [] (.op 1 [] .nil))) .leaf)) (.seq (.reg (.op 0 [] .nil)) (.seq (.reg (.op 0 [] .nil)) (.seqJ 7516192770 [(1, .leaf (.int .u64))] (.seq (.reg (.op 0 [] .nil)) (.cond (.reg (.op 0 [] (.op 1 [] (.op 2 [] .nil)))) .leaf)) (.seqJ 618970019642690128860143618 [(13, .leaf (.int .i64))] (.seq (.reg (.op 0 [] (.op 1 [] .nil))) (.cond (.seq (.reg (.op 0 [] (.op 1 [] (.op 2 [] (.op 3 [] (.op 4 [] .nil)))))) (.seq (.reg (.op 0 [] (.op 1 [] (.op 2 [] .nil)))) (.seq (.reg (.op 0 [] (.op 1 [] (.op 2 [] (.op 3 [] .nil))))) (.seq (.blk (.loop 288212783965675522 [(1, .leaf (.int .u64)), (13, .leaf (.int .i64))] (.seq (.seq (.reg (.op 0 [] (.op 1 [] (.op 2 [] .nil)))) (.cond .leaf .leaf)) (.blk (.seq (.reg (.op 0 [] (.op 1 [] (.op 2 [] .nil)))) (.seq (.reg (.op 0 [] (.op 1 [] (.op 2 [] (.op 3 [] (.op 4 [] (.op 5 [] (.op 6 [] .nil)))))))) (.reg (.op 0 [] (.op 1 [] (.op 2 [] (.op 3 [] .nil))))))))))) (.seq (.reg (.op 0 [] (.op 1 [] (.op 2 [] .nil)))) (.reg (.op 0 [] (.op 1 [] (.op 2 [] (.op 3 [] (.op 4 [] .nil))))))))))) (.seq (.reg (.op 0 [] (.op 1 [] (.op 2 [] .nil)))) (.seq (.blk (.loop 9671332769940738559713282 [(1, .leaf (.int .u64)), (13, .leaf (.int .i64))] (.seq (.seq (.reg (.op 0 [] (.op 1 [] (.op 2 [] .nil)))) (.cond .leaf .leaf)) (.blk (.seq (.reg (.op 0 [] (.op 1 [] (.op 2 [] .nil)))) (.seq (.reg (.op 0 [] (.op 1 [] (.op 2 [] (.op 3 [] .nil))))) (.seq (.reg (.op 0 [] (.op 1 [] (.op 2 [] (.op 3 [] (.op 4 [] (.op 5 [] (.op 6 [] (.op 7 [] (.op 8 [] .nil)))))))))) (.reg (.op 0 [] (.op 1 [] .nil)))))))))) (.seq (.reg (.op 0 [] (.op 1 [] (.op 2 [] .nil)))) (.reg (.op 0 [] (.op 1 [] (.op 2 [] (.op 3 [] (.op 4 [] .nil))))))))))) (.seq (.seq (.reg (.op 0 [] .nil)) (.cond (.seq (.reg (.op 0 [] (.op 1 [] (.op 2 [] .nil)))) (.reg (.op 0 [] (.op 1 [] (.op 2 [] .nil))))) .leaf)) (.seq (.seq (.reg (.op 0 [] .nil)) (.cond (.seq (.reg (.op 0 [] (.op 1 [] (.op 2 [] (.op 3 [] (.op 4 [] .nil)))))) .leaf) .leaf)) (.seq (.reg (.op 0 [] (.op 1 [] (.op 2 [] (.op 3 [] .nil))))) .leaf))))))))
def strconv_formatBits.F (a0 : Option Addr) (a0l : Nat) (a0c : Nat) (a1 : Int) (a2 : Int) (a3 : Bool) (a4 : Bool) (w : World) (K : Value → World → Prop) (X : List PanicEntry → World → Prop) : Prop :=
 ∀ K1 : List Value → World → Prop, (∀ w1, (∀ _ : Env,
 al w1 (.cells (#[.int .u8 0, .int .u8 0, .int .u8 0, .int .u8 0, .int .u8 0, .int .u8 0, .int .u8 0, .int .u8 0, .int .u8 0, .int .u8 0, .int .u8 0, .int .u8 0, .int .u8 0, .int .u8 0, .int .u8 0, .int .u8 0, .int .u8 0, .int .u8 0, .int .u8 0, .int .u8 0, .int .u8 0, .int .u8 0, .int .u8 0, .int .u8 0, .int .u8 0, .int .u8 0, .int .u8 0, .int .u8 0, .int .u8 0, .int .u8 0, .int .u8 0, .int .u8 0, .int .u8 0, .int .u8 0, .int .u8 0, .int .u8 0, .int .u8 0, .int .u8 0, .int .u8 0, .int .u8 0, .int .u8 0, .int .u8 0, .int .u8 0, .int .u8 0, .int .u8 0, .int .u8 0, .int .u8 0, .int .u8 0, .int .u8 0, .int .u8 0, .int .u8 0, .int .u8 0, .int .u8 0, .int .u8 0, .int .u8 0, .int .u8 0, .int .u8 0, .int .u8 0, .int .u8 0, .int .u8 0, .int .u8 0, .int .u8 0, .int .u8 0, .int .u8 0, .int .u8 0]) 130) fun k1 w2 =>
 ∀ K2 : List Value → World → Prop, (∀ n1 w3, (∀ _ : Env,
 ∀ K3 : List Value → World → Prop, (∀ n2 w4, (∀ _ : Env,
 cnd a3 (
 inB (iSub .i64 n2 1) 65 ∧
 ∀ d1, d1 = Addr.add (⟨k1, 0, none⟩ : Addr) (scale (Int.toNat (iSub .i64 n2 1)) 1) →
 st w4 d1 [.int .u8 45] fun w5 =>
 cnd a4 (
 inC (iSub .i64 n2 1) 65 ∧
 runV P (Builtin.append_ #[39, 39] 39 #[.slice a0 a0l a0c, .slice (slA (some ⟨k1, 0, none⟩) (Int.toNat (iSub .i64 n2 1)) 65 1) (sb 65 (Int.toNat (iSub .i64 n2 1))) (sb 65 (Int.toNat (iSub .i64 n2 1)))]) w5 (fun v2 w7 =>
 asL v2 fun q1 q1l q1c =>
 K (.tuple #[.slice q1 q1l q1c, .string (bs [])]) w7) X) (
 inC (iSub .i64 n2 1) 65 ∧
 runV P (convert 39 9 (.slice (slA (some ⟨k1, 0, none⟩) (Int.toNat (iSub .i64 n2 1)) 65 1) (sb 65 (Int.toNat (iSub .i64 n2 1))) (sb 65 (Int.toNat (iSub .i64 n2 1))))) w5 (fun v3 w8 =>
 asS v3 fun s1 =>
 K (.tuple #[.slice none 0 0, .string s1]) w8) X)) (
 cnd a4 (
 inC n2 65 ∧
 runV P (Builtin.append_ #[39, 39] 39 #[.slice a0 a0l a0c, .slice (slA (some ⟨k1, 0, none⟩) (Int.toNat n2) 65 1) (sb 65 (Int.toNat n2)) (sb 65 (Int.toNat n2))]) w4 (fun v5 w10 =>
 asL v5 fun q2 q2l q2c =>
 K (.tuple #[.slice q2 q2l q2c, .string (bs [])]) w10) X) (
 inC n2 65 ∧
 runV P (convert 39 9 (.slice (slA (some ⟨k1, 0, none⟩) (Int.toNat n2) 65 1) (sb 65 (Int.toNat n2)) (sb 65 (Int.toNat n2)))) w4 (fun v6 w11 =>
 asS v6 fun s2 =>
 K (.tuple #[.slice none 0 0, .string s2]) w11) X))) → K3 [.int .i64 n2] w4) →
 call P 72 [.int .i64 a2] w3 (fun v7 w12 =>
 asB v7 fun b1 =>
 cnd b1 (
 call P 73 [.int .u64 (IntKind.wrap .u64 (a2))] w12 (fun v8 w13 =>
 asI .i64 v8 fun n3 =>
 ∀ L1 : List Value → World → Prop, (∀ n4 n5 w14, (∀ _ : Env,
 cnd (iGe n4 (IntKind.wrap .u64 (a2))) (
 inB (bAnd .u64 n4 (iSub .u64 (IntKind.wrap .u64 (a2)) 1)) (ByteArray.size (bs [48, 49, 50, 51, 52, 53, 54, 55, 56, 57, 97, 98, 99, 100, 101, 102, 103, 104, 105, 106, 107, 108, 109, 110, 111, 112, 113, 114, 115, 116, 117, 118, 119, 120, 121, 122])) ∧
 inB (iSub .i64 n5 1) 65 ∧
 ∀ d2, d2 = Addr.add (⟨k1, 0, none⟩ : Addr) (scale (Int.toNat (iSub .i64 n5 1)) 1) →
 st w14 d2 [.int .u8 (bt (bs [48, 49, 50, 51, 52, 53, 54, 55, 56, 57, 97, 98, 99, 100, 101, 102, 103, 104, 105, 106, 107, 108, 109, 110, 111, 112, 113, 114, 115, 116, 117, 118, 119, 120, 121, 122]) (bAnd .u64 n4 (iSub .u64 (IntKind.wrap .u64 (a2)) 1)))] fun w15 =>
 nng (IntKind.wrap .u64 (n3)) ∧
 L1 [.int .u64 (iShr .u64 n4 (IntKind.wrap .u64 (n3))), .int .i64 (iSub .i64 n5 1)] w15) (
 inB n4 (ByteArray.size (bs [48, 49, 50, 51, 52, 53, 54, 55, 56, 57, 97, 98, 99, 100, 101, 102, 103, 104, 105, 106, 107, 108, 109, 110, 111, 112, 113, 114, 115, 116, 117, 118, 119, 120, 121, 122])) ∧
 inB (iSub .i64 n5 1) 65 ∧
 ∀ d3, d3 = Addr.add (⟨k1, 0, none⟩ : Addr) (scale (Int.toNat (iSub .i64 n5 1)) 1) →
 st w14 d3 [.int .u8 (bt (bs [48, 49, 50, 51, 52, 53, 54, 55, 56, 57, 97, 98, 99, 100, 101, 102, 103, 104, 105, 106, 107, 108, 109, 110, 111, 112, 113, 114, 115, 116, 117, 118, 119, 120, 121, 122]) n4)] fun w16 =>
 K3 [.int .i64 (iSub .i64 n5 1)] w16)) → L1 [.int .u64 n4, .int .i64 n5] w14) → L1 [.int .u64 n1, .int .i64 65] w13) X) (
 ∀ L2 : List Value → World → Prop, (∀ n6 n7 w17, (∀ _ : Env,
 cnd (iGe n6 (IntKind.wrap .u64 (a2))) (
 nz (IntKind.wrap .u64 (a2)) ∧
 inB (iSub .u64 n6 (iMul .u64 (iQuo .u64 n6 (IntKind.wrap .u64 (a2))) (IntKind.wrap .u64 (a2)))) (ByteArray.size (bs [48, 49, 50, 51, 52, 53, 54, 55, 56, 57, 97, 98, 99, 100, 101, 102, 103, 104, 105, 106, 107, 108, 109, 110, 111, 112, 113, 114, 115, 116, 117, 118, 119, 120, 121, 122])) ∧
 inB (iSub .i64 n7 1) 65 ∧
 ∀ d4, d4 = Addr.add (⟨k1, 0, none⟩ : Addr) (scale (Int.toNat (iSub .i64 n7 1)) 1) →
 st w17 d4 [.int .u8 (bt (bs [48, 49, 50, 51, 52, 53, 54, 55, 56, 57, 97, 98, 99, 100, 101, 102, 103, 104, 105, 106, 107, 108, 109, 110, 111, 112, 113, 114, 115, 116, 117, 118, 119, 120, 121, 122]) (iSub .u64 n6 (iMul .u64 (iQuo .u64 n6 (IntKind.wrap .u64 (a2))) (IntKind.wrap .u64 (a2)))))] fun w18 =>
 L2 [.int .u64 (iQuo .u64 n6 (IntKind.wrap .u64 (a2))), .int .i64 (iSub .i64 n7 1)] w18) (
 inB n6 (ByteArray.size (bs [48, 49, 50, 51, 52, 53, 54, 55, 56, 57, 97, 98, 99, 100, 101, 102, 103, 104, 105, 106, 107, 108, 109, 110, 111, 112, 113, 114, 115, 116, 117, 118, 119, 120, 121, 122])) ∧
 inB (iSub .i64 n7 1) 65 ∧
 ∀ d5, d5 = Addr.add (⟨k1, 0, none⟩ : Addr) (scale (Int.toNat (iSub .i64 n7 1)) 1) →
 st w17 d5 [.int .u8 (bt (bs [48, 49, 50, 51, 52, 53, 54, 55, 56, 57, 97, 98, 99, 100, 101, 102, 103, 104, 105, 106, 107, 108, 109, 110, 111, 112, 113, 114, 115, 116, 117, 118, 119, 120, 121, 122]) n6)] fun w19 =>
 K3 [.int .i64 (iSub .i64 n7 1)] w19)) → L2 [.int .u64 n6, .int .i64 n7] w17) → L2 [.int .u64 n1, .int .i64 65] w12)) X) → K2 [.int .u64 n1] w3) →
 cnd a3 (
 K2 [.int .u64 (iSub .u64 0 a1)] w2) (
 K2 [.int .u64 a1] w2)) → K1 [] w1) →
 ∀ K4 : List Value → World → Prop, (∀ b2 w20, (∀ _ : Env,
 ∀ K5 : List Value → World → Prop, (∀ b3 w21, (∀ _ : Env,
 cnd b3 (
 runV P (Instr.panic (.iface 9 (.string (bs [115, 116, 114, 99, 111, 110, 118, 58, 32, 105, 108, 108, 101, 103, 97, 108, 32, 65, 112, 112, 101, 110, 100, 73, 110, 116, 47, 70, 111, 114, 109, 97, 116, 73, 110, 116, 32, 98, 97, 115, 101])))) w21 (fun v9 w22 =>
 K1 [] w22) X) (
 K1 [] w21)) → K5 [.bool b3] w21) →
 cnd b2 (
 K5 [.bool true] w20) (
 K5 [.bool (iGt a2 36)] w20)) → K4 [.bool b2] w20) →
 cnd (iLt a2 2) (
 K4 [.bool true] w) (
 K4 [.bool (iEq a2 10)] w)
theorem strconv_formatBits.ok : annOk Tryz.f52 strconv_formatBits.ann (Tryz.f52.body.getD .skip) 5 = true := by kernel_rfl
theorem strconv_formatBits.eq {a0 : Option Addr} {a0l : Nat} {a0c : Nat} {a1 : Int} {a2 : Int} {a3 : Bool} {a4 : Bool} {w : World} {K : Value → World → Prop} {X : List PanicEntry → World → Prop} : strconv_formatBits.F a0 a0l a0c a1 a2 a3 a4 w K X = vc P strconv_formatBits.ann (Tryz.f52.body.getD .skip) (retQ P Tryz.f52 K X) (argE [.slice a0 a0l a0c, .int .u64 a1, .int .i64 a2, .bool a3, .bool a4]) w := by kernel_rfl
theorem strconv_formatBits.call {a0 : Option Addr} {a0l : Nat} {a0c : Nat} {a1 : Int} {a2 : Int} {a3 : Bool} {a4 : Bool} {w : World} {K : Value → World → Prop} {X : List PanicEntry → World → Prop} (h : strconv_formatBits.F a0 a0l a0c a1 a2 a3 a4 w K X) : call P 52 [.slice a0 a0l a0c, .int .u64 a1, .int .i64 a2, .bool a3, .bool a4] w K X :=
  call_of good Tryz.func52 (c := (Tryz.f52.body.getD .skip)) (by kernel_rfl) strconv_formatBits.ann strconv_formatBits.ok (Eq.mp strconv_formatBits.eq h)

/-- internal/strconv.FormatUint -/
def strconv_FormatUint_.ann : Ann := .seq (.reg (.op 0 [] .nil)) (.seq (.seq (.reg (.op 0 [] (.op 1 [] .nil))) (.cond (.seq (.seq (.reg (.op 0 [] (.op 1 [] .nil))) (.cond (.seq (.reg (.op 0 [] (.op 1 [] (.op 2 [] (.op 3 [] .nil))))) .leaf) .leaf)) (.seq (.reg (.op 0 [] .nil)) (.seq (.reg (.op 0 [] (.op 1 [] (.op 2 [] .nil)))) (.seq (.reg (.op 0 [] (.op 1 [] (.op 2 [] (.op 3 [] .nil))))) (.seq (.reg (.op 0 [] (.op 1 [] (.op 2 [] (.op 3 [] .nil))))) .leaf))))) .leaf)) (.seq (.reg (.op 0 [] (.op 1 [] (.op 2 [] (.op 3 [] (.op 4 [] (.op 5 [] (.op 6 [] (.op 7 [] .nil))))))))) (.seq (.reg (.op 0 [] (.op 1 [] .nil))) .leaf)))
def strconv_FormatUint_.F (a0 : Int) (a1 : Int) (w : World) (K : Value → World → Prop) (X : List PanicEntry → World → Prop) : Prop :=
 cnd (iEq a1 10) (
 cnd (iLt a0 100) (
 call P 49 [.int .i64 (IntKind.wrap .i64 (a0))] w (fun v1 w1 =>
 asS v1 fun s1 =>
 K (.string s1) w1) X) (
 al w (.cells (#[.int .u8 0, .int .u8 0, .int .u8 0, .int .u8 0, .int .u8 0, .int .u8 0, .int .u8 0, .int .u8 0, .int .u8 0, .int .u8 0, .int .u8 0, .int .u8 0, .int .u8 0, .int .u8 0, .int .u8 0, .int .u8 0, .int .u8 0, .int .u8 0, .int .u8 0, .int .u8 0, .int .u8 0, .int .u8 0, .int .u8 0, .int .u8 0]) 102) fun k1 w2 =>
 call P 50 [.int .u64 a0] w2 (fun v2 w3 =>
 asI .i64 v2 fun n1 =>
 inC n1 24 ∧
 call P 51 [.slice (some ⟨k1, 0, none⟩) (sb (Int.toNat n1) 0) (sb 24 0), .int .u64 a0] w3 (fun v3 w4 =>
 tuN 0 v3 (inC n1 24 ∧
 runV P (convert 39 9 (.slice (some ⟨k1, 0, none⟩) (sb (Int.toNat n1) 0) (sb 24 0))) w4 (fun v4 w5 =>
 asS v4 fun s2 =>
 K (.string s2) w5) X)) X) X)) (
 call P 52 [.slice none 0 0, .int .u64 a0, .int .i64 a1, .bool false, .bool false] w (fun v5 w6 =>
 tuN 2 v5 (fun v6 v7 => show Prop from
 asL v6 fun q1 q1l q1c =>
 asS v7 fun s3 =>
 K (.string s3) w6)) X)
theorem strconv_FormatUint_.ok : annOk Tryz.f53 strconv_FormatUint_.ann (Tryz.f53.body.getD .skip) 2 = true := by kernel_rfl
theorem strconv_FormatUint_.eq {a0 : Int} {a1 : Int} {w : World} {K : Value → World → Prop} {X : List PanicEntry → World → Prop} : strconv_FormatUint_.F a0 a1 w K X = vc P strconv_FormatUint_.ann (Tryz.f53.body.getD .skip) (retQ P Tryz.f53 K X) (argE [.int .u64 a0, .int .i64 a1]) w := by kernel_rfl
theorem strconv_FormatUint_.call {a0 : Int} {a1 : Int} {w : World} {K : Value → World → Prop} {X : List PanicEntry → World → Prop} (h : strconv_FormatUint_.F a0 a1 w K X) : call P 53 [.int .u64 a0, .int .i64 a1] w K X :=
  call_of good Tryz.func53 (c := (Tryz.f53.body.getD .skip)) (by kernel_rfl) strconv_FormatUint_.ann strconv_FormatUint_.ok (Eq.mp strconv_FormatUint_.eq h)

/-- reprise/repriseref04.Known -/
def repriseref04_Known.ann : Ann := .seq (.reg (.op 0 [] .nil)) (.seq (.reg (.op 0 [] (.op 1 [] (.op 2 [] (.split 5 (.op 3 [] (.op 4 [] (.op 5 [] .nil))) 448 [(8, .leaf (.bool))] (.op 6 [] .nil)))))) .leaf)
def repriseref04_Known.F (a0 : Int) (w : World) (K : Value → World → Prop) (X : List PanicEntry → World → Prop) : Prop :=
 ∀ K1 : List Value → World → Prop, (∀ b1 w1, (∀ _ : Env,
 K (.bool b1) w1) → K1 [.bool b1] w1) →
 cnd (iGe a0 1) (
 K1 [.bool (iLe a0 4)] w) (
 K1 [.bool false] w)
theorem repriseref04_Known.ok : annOk Tryz.f57 repriseref04_Known.ann (Tryz.f57.body.getD .skip) 1 = true := by kernel_rfl
theorem repriseref04_Known.eq {a0 : Int} {w : World} {K : Value → World → Prop} {X : List PanicEntry → World → Prop} : repriseref04_Known.F a0 w K X = vc P repriseref04_Known.ann (Tryz.f57.body.getD .skip) (retQ P Tryz.f57 K X) (argE [.int .i64 a0]) w := by kernel_rfl
theorem repriseref04_Known.call {a0 : Int} {w : World} {K : Value → World → Prop} {X : List PanicEntry → World → Prop} (h : repriseref04_Known.F a0 w K X) : call P 57 [.int .i64 a0] w K X :=
  call_of good Tryz.func57 (c := (Tryz.f57.body.getD .skip)) (by kernel_rfl) repriseref04_Known.ann repriseref04_Known.ok (Eq.mp repriseref04_Known.eq h)

/-- reprise/repriseref04.Fit -/
def repriseref04_Fit.ann : Ann := .seq (.reg (.op 0 [] (.op 1 [] .nil))) (.seq (.seq (.reg (.op 0 [] (.op 1 [] (.op 2 [] (.op 3 [] (.split 8 (.op 4 [] (.op 5 [] (.op 6 [] (.op 7 [] .nil)))) 7680 [(12, .leaf (.bool))] .nil)))))) (.cond (.seq (.reg (.op 0 [] (.op 1 [] .nil))) .leaf) .leaf)) (.seq (.seq (.reg (.op 0 [] (.op 1 [] .nil))) (.cond (.seq (.reg (.op 0 [] (.op 1 [] .nil))) .leaf) .leaf)) (.seq (.reg (.op 0 [] (.op 1 [] (.op 2 [] (.op 3 [] (.op 4 [] (.op 5 [] .nil))))))) .leaf)))
def repriseref04_Fit.F (a0 : Int) (a1_0 : Bool) (a1_1 : Int) (w : World) (K : Value → World → Prop) (X : List PanicEntry → World → Prop) : Prop :=
 al w (.cells (#[.bool a1_0, .int .u64 a1_1]) 88) fun k1 w1 =>
 al w1 (.cells (#[.bool false, .int .u64 0]) 88) fun k2 w2 =>
 call P 57 [.int .i64 a0] w2 (fun v1 w3 =>
 asB v1 fun b1 =>
 ∀ K1 : List Value → World → Prop, (∀ b2 w4, (∀ _ : Env,
 cnd b2 (
 st w4 (⟨k2, 0, none⟩ : Addr) [.bool false, .int .u64 0] fun w5 =>
 ld w5 (⟨k2, 0, none⟩ : Addr) fun v2 =>
 asB v2 fun b3 =>
 ld w5 (⟨k2, 1, none⟩ : Addr) fun v3 =>
 asI .u64 v3 fun n1 =>
 K (.agg #[.bool b3, .int .u64 n1]) w5) (
 cnd (iLe a0 2) (
 ld w4 (⟨k1, 0, none⟩ : Addr) fun v4 =>
 asB v4 fun b4 =>
 ld w4 (⟨k1, 1, none⟩ : Addr) fun v5 =>
 asI .u64 v5 fun n2 =>
 st w4 (⟨k2, 0, none⟩ : Addr) [.bool b4, .int .u64 n2] fun w6 =>
 ld w6 (⟨k2, 0, none⟩ : Addr) fun v6 =>
 asB v6 fun b5 =>
 ld w6 (⟨k2, 1, none⟩ : Addr) fun v7 =>
 asI .u64 v7 fun n3 =>
 K (.agg #[.bool b5, .int .u64 n3]) w6) (
 ld w4 (⟨k1, 1, none⟩ : Addr) fun v8 =>
 asI .u64 v8 fun n4 =>
 call P 79 [.int .u64 n4] w4 (fun v9 w7 =>
 asF .f64 v9 fun x1 =>
 call P 78 [.int .i64 a0, .float .f64 x1] w7 (fun v10 w8 =>
 agN 2 v10 (fun v11 v12 => show Prop from
 asB v11 fun b6 =>
 asI .u64 v12 fun n5 =>
 st w8 (⟨k2, 0, none⟩ : Addr) [.bool b6, .int .u64 n5] fun w9 =>
 ld w9 (⟨k2, 0, none⟩ : Addr) fun v13 =>
 asB v13 fun b7 =>
 ld w9 (⟨k2, 1, none⟩ : Addr) fun v14 =>
 asI .u64 v14 fun n6 =>
 K (.agg #[.bool b7, .int .u64 n6]) w9)) X) X))) → K1 [.bool b2] w4) →
 cnd (!b1) (
 K1 [.bool true] w3) (
 ld w3 (⟨k1, 0, none⟩ : Addr) fun v15 =>
 asB v15 fun b8 =>
 K1 [.bool (!b8)] w3)) X
theorem repriseref04_Fit.ok : annOk Tryz.f58 repriseref04_Fit.ann (Tryz.f58.body.getD .skip) 2 = true := by kernel_rfl
theorem repriseref04_Fit.eq {a0 : Int} {a1_0 : Bool} {a1_1 : Int} {w : World} {K : Value → World → Prop} {X : List PanicEntry → World → Prop} : repriseref04_Fit.F a0 a1_0 a1_1 w K X = vc P repriseref04_Fit.ann (Tryz.f58.body.getD .skip) (retQ P Tryz.f58 K X) (argE [.int .i64 a0, .agg #[.bool a1_0, .int .u64 a1_1]]) w := by kernel_rfl
theorem repriseref04_Fit.call {a0 : Int} {a1_0 : Bool} {a1_1 : Int} {w : World} {K : Value → World → Prop} {X : List PanicEntry → World → Prop} (h : repriseref04_Fit.F a0 a1_0 a1_1 w K X) : call P 58 [.int .i64 a0, .agg #[.bool a1_0, .int .u64 a1_1]] w K X :=
  call_of good Tryz.func58 (c := (Tryz.f58.body.getD .skip)) (by kernel_rfl) repriseref04_Fit.ann repriseref04_Fit.ok (Eq.mp repriseref04_Fit.eq h)

/-- reprise/repriseref04.decimal -/
def repriseref04_decimal.ann : Ann := .seq (.reg (.op 0 [] .nil)) (.seq (.reg (.op 0 [] .nil)) (.seq (.reg (.op 0 [] .nil)) (.seq (.blk (.loop 262129 [(0, .leaf (.int .u64)), (4, .leaf (.str))] (.seq (.seq (.reg (.op 0 [] (.op 1 [] .nil))) (.cond .leaf .leaf)) (.blk (.seq (.reg (.op 0 [] (.op 1 [] (.op 2 [] (.op 3 [] (.op 4 [] (.op 5 [] (.op 6 [] (.op 7 [] (.op 8 [] (.op 9 [] .nil))))))))))) (.reg (.op 0 [] (.op 1 [] (.op 2 [] .nil))))))))) (.seq (.reg (.op 0 [] (.op 1 [] (.op 2 [] (.op 3 [] (.op 4 [] (.op 5 [] (.op 6 [] (.op 7 [] .nil))))))))) .leaf))))
def repriseref04_decimal.F (a0 : Int) (w : World) (K : Value → World → Prop) (X : List PanicEntry → World → Prop) : Prop :=
 ∀ L1 : List Value → World → Prop, (∀ n1 s1 w1, (∀ _ : Env,
 cnd (iGe n1 10) (
 nz 10 ∧
 nz 10 ∧
 inC (iAdd .u64 (iRem n1 10) 1) (ByteArray.size (bs [48, 49, 50, 51, 52, 53, 54, 55, 56, 57])) ∧
 inC (iRem n1 10) (Int.toNat (iAdd .u64 (iRem n1 10) 1)) ∧
 catOk (cutS (bs [48, 49, 50, 51, 52, 53, 54, 55, 56, 57]) (Int.toNat (iRem n1 10)) (Int.toNat (iAdd .u64 (iRem n1 10) 1))) s1 ∧
 nz 10 ∧
 L1 [.int .u64 (iQuo .u64 n1 10), .string (cat (cutS (bs [48, 49, 50, 51, 52, 53, 54, 55, 56, 57]) (Int.toNat (iRem n1 10)) (Int.toNat (iAdd .u64 (iRem n1 10) 1))) s1)] w1) (
 inC (iAdd .u64 n1 1) (ByteArray.size (bs [48, 49, 50, 51, 52, 53, 54, 55, 56, 57])) ∧
 inC n1 (Int.toNat (iAdd .u64 n1 1)) ∧
 catOk (cutS (bs [48, 49, 50, 51, 52, 53, 54, 55, 56, 57]) (Int.toNat n1) (Int.toNat (iAdd .u64 n1 1))) s1 ∧
 K (.string (cat (cutS (bs [48, 49, 50, 51, 52, 53, 54, 55, 56, 57]) (Int.toNat n1) (Int.toNat (iAdd .u64 n1 1))) s1)) w1)) → L1 [.int .u64 n1, .string s1] w1) → L1 [.int .u64 a0, .string (bs [])] w
theorem repriseref04_decimal.ok : annOk Tryz.f59 repriseref04_decimal.ann (Tryz.f59.body.getD .skip) 1 = true := by kernel_rfl
theorem repriseref04_decimal.eq {a0 : Int} {w : World} {K : Value → World → Prop} {X : List PanicEntry → World → Prop} : repriseref04_decimal.F a0 w K X = vc P repriseref04_decimal.ann (Tryz.f59.body.getD .skip) (retQ P Tryz.f59 K X) (argE [.int .u64 a0]) w := by kernel_rfl
theorem repriseref04_decimal.call {a0 : Int} {w : World} {K : Value → World → Prop} {X : List PanicEntry → World → Prop} (h : repriseref04_decimal.F a0 w K X) : call P 59 [.int .u64 a0] w K X :=
  call_of good Tryz.func59 (c := (Tryz.f59.body.getD .skip)) (by kernel_rfl) repriseref04_decimal.ann repriseref04_decimal.ok (Eq.mp repriseref04_decimal.eq h)

/-- strings.splitSeq$1 -/
def strings_splitSeq_1.ann : Ann := .seq (.seq (.reg (.op 0 [] (.op 1 [] (.op 2 [] .nil)))) (.cond (.seq (.blk (.loop 536866912 [] (.seq (.seq (.reg (.op 0 [] (.op 1 [] (.op 2 [] .nil)))) (.cond .leaf .leaf)) (.blk (.seq (.reg (.op 0 [] (.op 1 [] (.op 2 [] (.op 3 [] (.op 4 [] (.op 5 [] (.op 6 [] .nil)))))))) (.seq (.seq (.reg (.op 0 [] (.op 1 [] (.op 2 [] (.op 3 [] (.op 4 [] (.op 5 [] .nil))))))) (.cond .leaf .leaf)) (.reg (.op 0 [] (.op 1 [] (.op 2 [] (.op 3 [] .nil))))))))))) .leaf) .leaf)) (.seq (.blk (.loop 562949416550784 [] (.blk (.seq (.reg (.op 0 [] (.op 1 [] (.op 2 [] (.op 3 [] .nil))))) (.seq (.seq (.reg (.op 0 [] (.op 1 [] .nil))) (.cond .leaf .leaf)) (.seq (.reg (.op 0 [] (.op 1 [] (.op 2 [] (.op 3 [] (.op 4 [] (.op 5 [] .nil))))))) (.seq (.seq (.reg (.op 0 [] (.op 1 [] (.op 2 [] (.op 3 [] .nil))))) (.cond .leaf .leaf)) (.reg (.op 0 [] (.op 1 [] (.op 2 [] (.op 3 [] (.op 4 [] (.op 5 [] (.op 6 [] .nil))))))))))))))) (.reg (.op 0 [] (.op 1 [] (.op 2 [] .nil)))))
def strings_splitSeq_1.F (a0 : Value) (c0 : Addr) (c1 : Addr) (c2 : Addr) (w : World) (K : Value → World → Prop) (X : List PanicEntry → World → Prop) : Prop :=
 ld w c0 fun v1 =>
 asS v1 fun s1 =>
 cnd (iEq (lenN (ByteArray.size s1)) 0) (
 ∀ L1 : List Value → World → Prop, (∀ w2, (∀ _ : Env,
 ld w2 c1 fun v3 =>
 asS v3 fun s2 =>
 cnd (iGt (lenN (ByteArray.size s2)) 0) (
 ld w2 c1 fun v5 =>
 asS v5 fun s3 =>
 call P 61 [.string s3] w2 (fun v6 w4 =>
 tuN 2 v6 (fun v7 v8 => show Prop from
 asI .i32 v7 fun n1 =>
 asI .i64 v8 fun n2 =>
 ld w4 c1 fun v9 =>
 asS v9 fun s4 =>
 inC n2 (ByteArray.size s4) ∧
 callV P (a0) [.string (cutS s4 0 (Int.toNat n2))] w4 (fun v10 w5 =>
 asB v10 fun b1 =>
 cnd (!b1) (
 K (.tuple #[]) w5) (
 ld w5 c1 fun v11 =>
 asS v11 fun s5 =>
 inC n2 (ByteArray.size s5) ∧
 st w5 c1 [.string (cutS s5 (Int.toNat n2) (ByteArray.size s5))] fun w6 =>
 L1 [] w6)) X)) X) (
 K (.tuple #[]) w2)) → L1 [] w2) → L1 [] w) (
 ∀ L2 : List Value → World → Prop, (∀ w7, (∀ _ : Env,
 ld w7 c1 fun v12 =>
 asS v12 fun s6 =>
 ld w7 c0 fun v13 =>
 asS v13 fun s7 =>
 call P 62 [.string s6, .string s7] w7 (fun v14 w8 =>
 asI .i64 v14 fun n3 =>
 cnd (iLt n3 0) (
 ld w8 c1 fun v15 =>
 asS v15 fun s8 =>
 callV P (a0) [.string s8] w8 (fun v16 w9 =>
 asB v16 fun b2 =>
 K (.tuple #[]) w9) X) (
 ld w8 c1 fun v17 =>
 asS v17 fun s9 =>
 ld w8 c2 fun v18 =>
 asI .i64 v18 fun n4 =>
 inC (iAdd .i64 n3 n4) (ByteArray.size s9) ∧
 callV P (a0) [.string (cutS s9 0 (Int.toNat (iAdd .i64 n3 n4)))] w8 (fun v19 w10 =>
 asB v19 fun b3 =>
 cnd (!b3) (
 K (.tuple #[]) w10) (
 ld w10 c1 fun v20 =>
 asS v20 fun s10 =>
 ld w10 c0 fun v21 =>
 asS v21 fun s11 =>
 inC (iAdd .i64 n3 (lenN (ByteArray.size s11))) (ByteArray.size s10) ∧
 st w10 c1 [.string (cutS s10 (Int.toNat (iAdd .i64 n3 (lenN (ByteArray.size s11)))) (ByteArray.size s10))] fun w12 =>
 L2 [] w12)) X)) X) → L2 [] w7) → L2 [] w)
theorem strings_splitSeq_1.ok : annOk Tryz.f60 strings_splitSeq_1.ann (Tryz.f60.body.getD .skip) 4 = true := by kernel_rfl
theorem strings_splitSeq_1.eq {a0 : Value} {c0 : Addr} {c1 : Addr} {c2 : Addr} {w : World} {K : Value → World → Prop} {X : List PanicEntry → World → Prop} : strings_splitSeq_1.F a0 c0 c1 c2 w K X = vc P strings_splitSeq_1.ann (Tryz.f60.body.getD .skip) (retQ P Tryz.f60 K X) (argE [a0, .pointer (some c0), .pointer (some c1), .pointer (some c2)]) w := by kernel_rfl
theorem strings_splitSeq_1.call {a0 : Value} {c0 : Addr} {c1 : Addr} {c2 : Addr} {w : World} {K : Value → World → Prop} {X : List PanicEntry → World → Prop} (h : strings_splitSeq_1.F a0 c0 c1 c2 w K X) : call P 60 [a0, .pointer (some c0), .pointer (some c1), .pointer (some c2)] w K X :=
  call_of good Tryz.func60 (c := (Tryz.f60.body.getD .skip)) (by kernel_rfl) strings_splitSeq_1.ann strings_splitSeq_1.ok (Eq.mp strings_splitSeq_1.eq h)

end Go.Proofs.YtgfbkmclekafbaaGreatDoor
