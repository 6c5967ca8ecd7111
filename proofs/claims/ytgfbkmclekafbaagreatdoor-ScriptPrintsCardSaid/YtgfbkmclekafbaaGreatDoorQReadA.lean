/- Readings of functions of the program, printed by gen.py out of the translation: each with the proof that it gives the call. -/
import Derived.Test.YtgfbkmclekafbaaGreatDoorQBase
set_option linter.unusedVariables false
set_option linter.unusedSimpArgs false
set_option linter.unnecessarySimpa false
set_option maxRecDepth 100000
namespace Go.Proofs.YtgfbkmclekafbaaGreatDoor
open Go Go.Vc

/-- reprise/repriselaw21.ScriptPrints -/
def repriselaw21_ScriptPrints.ann : Ann := .seq (.reg (.op 0 [] (.op 1 [] .nil))) (.seq (.seq (.reg (.op 0 [] (.op 1 [] .nil))) (.cond (.seq (.reg (.op 0 [] .nil)) .leaf) .leaf)) (.seq (.reg (.op 0 [] (.op 1 [] (.op 2 [] (.op 3 [] (.op 4 [] (.op 5 [] (.op 6 [] (.op 7 [] .nil))))))))) (.seq (.reg (.op 0 [] (.op 1 [] (.op 2 [] (.op 3 [] (.op 4 [] (.op 5 [] (.op 6 [] (.op 7 [] .nil))))))))) (.seq (.reg (.op 0 [] (.op 1 [] (.op 2 [] (.op 3 [] (.split 26 (.op 4 [] (.op 5 [] (.op 6 [] (.op 7 [] .nil)))) 2013265920 [(30, .leaf (.bool))] (.op 8 [] .nil))))))) .leaf))))
def repriselaw21_ScriptPrints.F (a0_0 : Int) (a0_1 : Int) (a0_2 : Int) (a0_3 : Option Addr) (a0_3l : Nat) (a0_3c : Nat) (a0_4 : Int) (a0_5 : Int) (a0_6 : Int) (a0_7 : Int) (a1 : Option Addr) (a1l : Nat) (a1c : Nat) (w : World) (K : Value → World → Prop) (X : List PanicEntry → World → Prop) : Prop :=
 al w (.cells (#[.int .i64 a0_0, .int .i64 a0_1, .int .i64 a0_2, .slice a0_3 a0_3l a0_3c, .int .i64 a0_4, .int .i64 a0_5, .int .i64 a0_6, .int .i64 a0_7]) 24) fun k1 w1 =>
 call P 9 [] w1 (fun v1 w2 =>
 asB v1 fun b1 =>
 cnd (!b1) (
 K (.bool false) w2) (
 ld w2 (⟨k1, 0, none⟩ : Addr) fun v2 =>
 asI .i64 v2 fun n1 =>
 ld w2 (⟨k1, 1, none⟩ : Addr) fun v3 =>
 asI .i64 v3 fun n2 =>
 ld w2 (⟨k1, 2, none⟩ : Addr) fun v4 =>
 asI .i64 v4 fun n3 =>
 ld w2 (⟨k1, 3, none⟩ : Addr) fun v5 =>
 asL v5 fun q1 q1l q1c =>
 ld w2 (⟨k1, 4, none⟩ : Addr) fun v6 =>
 asI .i64 v6 fun n4 =>
 ld w2 (⟨k1, 5, none⟩ : Addr) fun v7 =>
 asI .i64 v7 fun n5 =>
 ld w2 (⟨k1, 6, none⟩ : Addr) fun v8 =>
 asI .i64 v8 fun n6 =>
 ld w2 (⟨k1, 7, none⟩ : Addr) fun v9 =>
 asI .i64 v9 fun n7 =>
 call P 10 [.agg #[.int .i64 n1, .int .i64 n2, .int .i64 n3, .slice q1 q1l q1c, .int .i64 n4, .int .i64 n5, .int .i64 n6, .int .i64 n7], .slice a1 a1l a1c] w2 (fun v10 w3 =>
 tuN 2 v10 (fun v11 v12 => show Prop from
 asS v11 fun s1 =>
 asI .i64 v12 fun n8 =>
 ld w3 (⟨k1, 0, none⟩ : Addr) fun v13 =>
 asI .i64 v13 fun n9 =>
 ld w3 (⟨k1, 1, none⟩ : Addr) fun v14 =>
 asI .i64 v14 fun n10 =>
 ld w3 (⟨k1, 2, none⟩ : Addr) fun v15 =>
 asI .i64 v15 fun n11 =>
 ld w3 (⟨k1, 3, none⟩ : Addr) fun v16 =>
 asL v16 fun q2 q2l q2c =>
 ld w3 (⟨k1, 4, none⟩ : Addr) fun v17 =>
 asI .i64 v17 fun n12 =>
 ld w3 (⟨k1, 5, none⟩ : Addr) fun v18 =>
 asI .i64 v18 fun n13 =>
 ld w3 (⟨k1, 6, none⟩ : Addr) fun v19 =>
 asI .i64 v19 fun n14 =>
 ld w3 (⟨k1, 7, none⟩ : Addr) fun v20 =>
 asI .i64 v20 fun n15 =>
 call P 11 [.agg #[.int .i64 n9, .int .i64 n10, .int .i64 n11, .slice q2 q2l q2c, .int .i64 n12, .int .i64 n13, .int .i64 n14, .int .i64 n15], .slice a1 a1l a1c] w3 (fun v21 w4 =>
 tuN 2 v21 (fun v22 v23 => show Prop from
 asS v22 fun s2 =>
 asI .i64 v23 fun n16 =>
 ∀ K1 : List Value → World → Prop, (∀ b2 w5, (∀ _ : Env,
 K (.bool b2) w5) → K1 [.bool b2] w5) →
 cnd (sEq s1 s2) (
 K1 [.bool (iEq n8 n16)] w4) (
 K1 [.bool false] w4))) X)) X)) X
theorem repriselaw21_ScriptPrints.ok : annOk Tryz.f3 repriselaw21_ScriptPrints.ann (Tryz.f3.body.getD .skip) 2 = true := by kernel_rfl
theorem repriselaw21_ScriptPrints.eq {a0_0 : Int} {a0_1 : Int} {a0_2 : Int} {a0_3 : Option Addr} {a0_3l : Nat} {a0_3c : Nat} {a0_4 : Int} {a0_5 : Int} {a0_6 : Int} {a0_7 : Int} {a1 : Option Addr} {a1l : Nat} {a1c : Nat} {w : World} {K : Value → World → Prop} {X : List PanicEntry → World → Prop} : repriselaw21_ScriptPrints.F a0_0 a0_1 a0_2 a0_3 a0_3l a0_3c a0_4 a0_5 a0_6 a0_7 a1 a1l a1c w K X = vc P repriselaw21_ScriptPrints.ann (Tryz.f3.body.getD .skip) (retQ P Tryz.f3 K X) (argE [.agg #[.int .i64 a0_0, .int .i64 a0_1, .int .i64 a0_2, .slice a0_3 a0_3l a0_3c, .int .i64 a0_4, .int .i64 a0_5, .int .i64 a0_6, .int .i64 a0_7], .slice a1 a1l a1c]) w := by kernel_rfl
theorem repriselaw21_ScriptPrints.call {a0_0 : Int} {a0_1 : Int} {a0_2 : Int} {a0_3 : Option Addr} {a0_3l : Nat} {a0_3c : Nat} {a0_4 : Int} {a0_5 : Int} {a0_6 : Int} {a0_7 : Int} {a1 : Option Addr} {a1l : Nat} {a1c : Nat} {w : World} {K : Value → World → Prop} {X : List PanicEntry → World → Prop} (h : repriselaw21_ScriptPrints.F a0_0 a0_1 a0_2 a0_3 a0_3l a0_3c a0_4 a0_5 a0_6 a0_7 a1 a1l a1c w K X) : call P 3 [.agg #[.int .i64 a0_0, .int .i64 a0_1, .int .i64 a0_2, .slice a0_3 a0_3l a0_3c, .int .i64 a0_4, .int .i64 a0_5, .int .i64 a0_6, .int .i64 a0_7], .slice a1 a1l a1c] w K X :=
  call_of good Tryz.func3 (c := (Tryz.f3.body.getD .skip)) (by kernel_rfl) repriselaw21_ScriptPrints.ann repriselaw21_ScriptPrints.ok (Eq.mp repriselaw21_ScriptPrints.eq h)

/-- reprise/repriselaw21.ScriptBack -/
def repriselaw21_ScriptBack.ann : Ann := .seq (.reg (.op 0 [] (.op 1 [] .nil))) (.seq (.seq (.reg (.op 0 [] (.op 1 [] .nil))) (.cond (.seq (.reg (.op 0 [] .nil)) .leaf) .leaf)) (.seq (.seq (.reg (.op 0 [] (.op 1 [] (.op 2 [] .nil)))) (.cond (.seq (.reg (.op 0 [] .nil)) .leaf) .leaf)) (.seq (.reg (.op 0 [] (.op 1 [] (.op 2 [] (.op 3 [] (.op 4 [] (.op 5 [] (.op 6 [] (.op 7 [] .nil))))))))) (.seq (.seq (.reg (.op 0 [] (.op 1 [] .nil))) (.cond (.seq (.reg (.op 0 [] (.op 1 [] (.op 2 [] (.split 29 (.op 3 [] (.op 4 [] (.op 5 [] (.split 32 (.op 6 [] (.op 7 [] (.op 8 [] .nil))) 60129542144 [(35, .leaf (.bool))] (.op 9 [] (.split 36 (.op 10 [] (.op 11 [] (.op 12 [] .nil))) 962072674304 [(39, .leaf (.bool))] (.op 13 [] .nil))))))) 2197949513728 [(40, .leaf (.bool))] (.op 14 [] .nil)))))) .leaf) .leaf)) (.seq (.reg (.op 0 [] (.op 1 [] (.op 2 [] (.op 3 [] (.op 4 [] (.op 5 [] (.op 6 [] (.op 7 [] (.op 8 [] (.op 9 [] (.op 10 [] (.op 11 [] .nil))))))))))))) (.seq (.seq (.reg (.op 0 [] (.op 1 [] (.op 2 [] (.split 50 (.op 3 [] (.op 4 [] (.op 5 [] .nil))) 15762598695796736 [(53, .leaf (.bool))] (.op 6 [] (.split 54 (.op 7 [] (.op 8 [] (.op 9 [] (.op 10 [] (.op 11 [] .nil))))) 1116892707587883008 [(59, .leaf (.bool))] (.op 12 [] (.split 60 (.op 13 [] (.op 14 [] (.op 15 [] (.op 16 [] (.op 17 [] .nil))))) 71481133285624512512 [(65, .leaf (.bool))] .nil))))))))) (.cond (.seq (.reg (.op 0 [] .nil)) .leaf) .leaf)) (.seq (.reg (.op 0 [] (.op 1 [] (.op 2 [] (.op 3 [] (.op 4 [] (.op 5 [] (.op 6 [] (.op 7 [] (.op 8 [] .nil)))))))))) (.seq (.reg (.lt 0 (.lt 1 (.lt 2 (.lt 3 (.op 4 [] (.lt 5 (.lt 6 (.lt 7 (.lt 8 (.lt 9 .nil))))))))))) (.seq (.reg (.op 0 [] (.op 1 [] (.op 2 [] (.split 84 (.op 3 [] (.op 4 [] (.op 5 [] (.op 6 [] (.op 7 [] (.op 8 [] .nil)))))) 2437194452343092416207650816 [(90, .leaf (.bool))] (.op 9 [] (.split 91 (.op 10 [] (.op 11 [] (.op 12 [] (.op 13 [] (.op 14 [] (.op 15 [] (.op 16 [] .nil))))))) 628873539956973179648755105792 [(98, .leaf (.bool))] (.op 17 [] .nil)))))))) .leaf)))))))))
def repriselaw21_ScriptBack.F (a0_0 : Int) (a0_1 : Int) (a0_2 : Int) (a0_3 : Option Addr) (a0_3l : Nat) (a0_3c : Nat) (a0_4 : Int) (a0_5 : Int) (a0_6 : Int) (a0_7 : Int) (a1 : Option Addr) (a1l : Nat) (a1c : Nat) (a2 : Int) (w : World) (K : Value → World → Prop) (X : List PanicEntry → World → Prop) : Prop :=
 al w (.cells (#[.int .i64 a0_0, .int .i64 a0_1, .int .i64 a0_2, .slice a0_3 a0_3l a0_3c, .int .i64 a0_4, .int .i64 a0_5, .int .i64 a0_6, .int .i64 a0_7]) 24) fun k1 w1 =>
 call P 9 [] w1 (fun v1 w2 =>
 asB v1 fun b1 =>
 cnd (!b1) (
 K (.bool false) w2) (
 cnd (iGt (lenN a1l) 300) (
 K (.bool true) w2) (
 ld w2 (⟨k1, 0, none⟩ : Addr) fun v3 =>
 asI .i64 v3 fun n1 =>
 ld w2 (⟨k1, 1, none⟩ : Addr) fun v4 =>
 asI .i64 v4 fun n2 =>
 ld w2 (⟨k1, 2, none⟩ : Addr) fun v5 =>
 asI .i64 v5 fun n3 =>
 ld w2 (⟨k1, 3, none⟩ : Addr) fun v6 =>
 asL v6 fun q1 q1l q1c =>
 ld w2 (⟨k1, 4, none⟩ : Addr) fun v7 =>
 asI .i64 v7 fun n4 =>
 ld w2 (⟨k1, 5, none⟩ : Addr) fun v8 =>
 asI .i64 v8 fun n5 =>
 ld w2 (⟨k1, 6, none⟩ : Addr) fun v9 =>
 asI .i64 v9 fun n6 =>
 ld w2 (⟨k1, 7, none⟩ : Addr) fun v10 =>
 asI .i64 v10 fun n7 =>
 call P 10 [.agg #[.int .i64 n1, .int .i64 n2, .int .i64 n3, .slice q1 q1l q1c, .int .i64 n4, .int .i64 n5, .int .i64 n6, .int .i64 n7], .slice a1 a1l a1c] w2 (fun v11 w4 =>
 tuN 2 v11 (fun v12 v13 => show Prop from
 asS v12 fun s1 =>
 asI .i64 v13 fun n8 =>
 cnd (iNe n8 0) (
 ∀ K1 : List Value → World → Prop, (∀ b2 w5, (∀ _ : Env,
 K (.bool b2) w5) → K1 [.bool b2] w5) →
 cnd (sEq s1 (bs [])) (
 ∀ K2 : List Value → World → Prop, (∀ b3 w6, (∀ _ : Env,
 ∀ K3 : List Value → World → Prop, (∀ b4 w7, (∀ _ : Env,
 K1 [.bool b4] w7) → K3 [.bool b4] w7) →
 cnd b3 (
 K3 [.bool true] w6) (
 K3 [.bool (iEq n8 6)] w6)) → K2 [.bool b3] w6) →
 cnd (iEq n8 200) (
 K2 [.bool true] w4) (
 K2 [.bool (iEq n8 1)] w4)) (
 K1 [.bool false] w4)) (
 call P 12 [.string s1] w4 (fun v14 w8 =>
 tuN 4 v14 (fun v15 v16 v17 v18 => show Prop from
 agN 8 v15 (fun v19 v20 v21 v22 v23 v24 v25 v26 => show Prop from
 asI .i64 v19 fun n9 =>
 asI .i64 v20 fun n10 =>
 asI .i64 v21 fun n11 =>
 asL v22 fun q2 q2l q2c =>
 asI .i64 v23 fun n12 =>
 asI .i64 v24 fun n13 =>
 asI .i64 v25 fun n14 =>
 asI .i64 v26 fun n15 =>
 asL v16 fun q3 q3l q3c =>
 asI .i64 v17 fun n16 =>
 asI .i64 v18 fun n17 =>
 al w8 (.cells (#[.int .i64 0, .int .i64 0, .int .i64 0, .slice none 0 0, .int .i64 0, .int .i64 0, .int .i64 0, .int .i64 0]) 24) fun k2 w9 =>
 st w9 (⟨k2, 0, none⟩ : Addr) [.int .i64 n9, .int .i64 n10, .int .i64 n11, .slice q2 q2l q2c, .int .i64 n12, .int .i64 n13, .int .i64 n14, .int .i64 n15] fun w10 =>
 ∀ K4 : List Value → World → Prop, (∀ b5 w11, (∀ _ : Env,
 ∀ K5 : List Value → World → Prop, (∀ b6 w12, (∀ _ : Env,
 ∀ K6 : List Value → World → Prop, (∀ b7 w13, (∀ _ : Env,
 cnd b7 (
 K (.bool false) w13) (
 nz (IntKind.wrap .u64 (iAdd .i64 (lenN a1l) 1)) ∧
 ∀ w15, w15 = World.drew w13 →
 ld w15 (⟨k1, 0, none⟩ : Addr) fun v28 =>
 asI .i64 v28 fun n18 =>
 ld w15 (⟨k1, 1, none⟩ : Addr) fun v29 =>
 asI .i64 v29 fun n19 =>
 ld w15 (⟨k1, 2, none⟩ : Addr) fun v30 =>
 asI .i64 v30 fun n20 =>
 ld w15 (⟨k1, 3, none⟩ : Addr) fun v31 =>
 asL v31 fun q4 q4l q4c =>
 ld w15 (⟨k1, 4, none⟩ : Addr) fun v32 =>
 asI .i64 v32 fun n21 =>
 ld w15 (⟨k1, 5, none⟩ : Addr) fun v33 =>
 asI .i64 v33 fun n22 =>
 ld w15 (⟨k1, 6, none⟩ : Addr) fun v34 =>
 asI .i64 v34 fun n23 =>
 ld w15 (⟨k1, 7, none⟩ : Addr) fun v35 =>
 asI .i64 v35 fun n24 =>
 inC (IntKind.wrap .i64 (iRem (IntKind.wrap .u64 (a2)) (IntKind.wrap .u64 (iAdd .i64 (lenN a1l) 1)))) a1c ∧
 call P 10 [.agg #[.int .i64 n18, .int .i64 n19, .int .i64 n20, .slice q4 q4l q4c, .int .i64 n21, .int .i64 n22, .int .i64 n23, .int .i64 n24], .slice a1 (sb (Int.toNat (IntKind.wrap .i64 (iRem (IntKind.wrap .u64 (a2)) (IntKind.wrap .u64 (iAdd .i64 (lenN a1l) 1))))) 0) (sb a1c 0)] w15 (fun v36 w16 =>
 tuN 2 v36 (fun v37 v38 => show Prop from
 asS v37 fun s2 =>
 asI .i64 v38 fun n25 =>
 ∀ K7 : List Value → World → Prop, (∀ b8 w17, (∀ _ : Env,
 ∀ K8 : List Value → World → Prop, (∀ b9 w18, (∀ _ : Env,
 K (.bool b9) w18) → K8 [.bool b9] w18) →
 cnd b8 (
 inC (lenN (ByteArray.size s2)) (ByteArray.size s1) ∧
 K8 [.bool (sEq (cutS s1 0 (Int.toNat (lenN (ByteArray.size s2)))) s2)] w17) (
 K8 [.bool false] w17)) → K7 [.bool b8] w17) →
 cnd (iEq n25 0) (
 K7 [.bool (iLe (lenN (ByteArray.size s2)) (lenN (ByteArray.size s1)))] w16) (
 K7 [.bool false] w16))) X)) → K6 [.bool b7] w13) →
 cnd b6 (
 K6 [.bool true] w12) (
 call P 14 [.slice q3 q3l q3c, .slice a1 a1l a1c] w12 (fun v42 w22 =>
 asB v42 fun b10 =>
 K6 [.bool (!b10)] w22) X)) → K5 [.bool b6] w12) →
 cnd b5 (
 K5 [.bool true] w11) (
 ld w11 (⟨k1, 0, none⟩ : Addr) fun v43 =>
 asI .i64 v43 fun n26 =>
 ld w11 (⟨k1, 1, none⟩ : Addr) fun v44 =>
 asI .i64 v44 fun n27 =>
 ld w11 (⟨k1, 2, none⟩ : Addr) fun v45 =>
 asI .i64 v45 fun n28 =>
 ld w11 (⟨k1, 3, none⟩ : Addr) fun v46 =>
 asL v46 fun q5 q5l q5c =>
 ld w11 (⟨k1, 4, none⟩ : Addr) fun v47 =>
 asI .i64 v47 fun n29 =>
 ld w11 (⟨k1, 5, none⟩ : Addr) fun v48 =>
 asI .i64 v48 fun n30 =>
 ld w11 (⟨k1, 6, none⟩ : Addr) fun v49 =>
 asI .i64 v49 fun n31 =>
 ld w11 (⟨k1, 7, none⟩ : Addr) fun v50 =>
 asI .i64 v50 fun n32 =>
 ld w11 (⟨k2, 0, none⟩ : Addr) fun v51 =>
 asI .i64 v51 fun n33 =>
 ld w11 (⟨k2, 1, none⟩ : Addr) fun v52 =>
 asI .i64 v52 fun n34 =>
 ld w11 (⟨k2, 2, none⟩ : Addr) fun v53 =>
 asI .i64 v53 fun n35 =>
 ld w11 (⟨k2, 3, none⟩ : Addr) fun v54 =>
 asL v54 fun q6 q6l q6c =>
 ld w11 (⟨k2, 4, none⟩ : Addr) fun v55 =>
 asI .i64 v55 fun n36 =>
 ld w11 (⟨k2, 5, none⟩ : Addr) fun v56 =>
 asI .i64 v56 fun n37 =>
 ld w11 (⟨k2, 6, none⟩ : Addr) fun v57 =>
 asI .i64 v57 fun n38 =>
 ld w11 (⟨k2, 7, none⟩ : Addr) fun v58 =>
 asI .i64 v58 fun n39 =>
 call P 13 [.agg #[.int .i64 n26, .int .i64 n27, .int .i64 n28, .slice q5 q5l q5c, .int .i64 n29, .int .i64 n30, .int .i64 n31, .int .i64 n32], .agg #[.int .i64 n33, .int .i64 n34, .int .i64 n35, .slice q6 q6l q6c, .int .i64 n36, .int .i64 n37, .int .i64 n38, .int .i64 n39]] w11 (fun v59 w23 =>
 asB v59 fun b11 =>
 K5 [.bool (!b11)] w23) X)) → K4 [.bool b5] w11) →
 cnd (iNe n17 0) (
 K4 [.bool true] w10) (
 K4 [.bool (iNe n16 0)] w10)))) X))) X))) X
theorem repriselaw21_ScriptBack.ok : annOk Tryz.f4 repriselaw21_ScriptBack.ann (Tryz.f4.body.getD .skip) 3 = true := by kernel_rfl
theorem repriselaw21_ScriptBack.eq {a0_0 : Int} {a0_1 : Int} {a0_2 : Int} {a0_3 : Option Addr} {a0_3l : Nat} {a0_3c : Nat} {a0_4 : Int} {a0_5 : Int} {a0_6 : Int} {a0_7 : Int} {a1 : Option Addr} {a1l : Nat} {a1c : Nat} {a2 : Int} {w : World} {K : Value → World → Prop} {X : List PanicEntry → World → Prop} : repriselaw21_ScriptBack.F a0_0 a0_1 a0_2 a0_3 a0_3l a0_3c a0_4 a0_5 a0_6 a0_7 a1 a1l a1c a2 w K X = vc P repriselaw21_ScriptBack.ann (Tryz.f4.body.getD .skip) (retQ P Tryz.f4 K X) (argE [.agg #[.int .i64 a0_0, .int .i64 a0_1, .int .i64 a0_2, .slice a0_3 a0_3l a0_3c, .int .i64 a0_4, .int .i64 a0_5, .int .i64 a0_6, .int .i64 a0_7], .slice a1 a1l a1c, .int .i64 a2]) w := by kernel_rfl
theorem repriselaw21_ScriptBack.call {a0_0 : Int} {a0_1 : Int} {a0_2 : Int} {a0_3 : Option Addr} {a0_3l : Nat} {a0_3c : Nat} {a0_4 : Int} {a0_5 : Int} {a0_6 : Int} {a0_7 : Int} {a1 : Option Addr} {a1l : Nat} {a1c : Nat} {a2 : Int} {w : World} {K : Value → World → Prop} {X : List PanicEntry → World → Prop} (h : repriselaw21_ScriptBack.F a0_0 a0_1 a0_2 a0_3 a0_3l a0_3c a0_4 a0_5 a0_6 a0_7 a1 a1l a1c a2 w K X) : call P 4 [.agg #[.int .i64 a0_0, .int .i64 a0_1, .int .i64 a0_2, .slice a0_3 a0_3l a0_3c, .int .i64 a0_4, .int .i64 a0_5, .int .i64 a0_6, .int .i64 a0_7], .slice a1 a1l a1c, .int .i64 a2] w K X :=
  call_of good Tryz.func4 (c := (Tryz.f4.body.getD .skip)) (by kernel_rfl) repriselaw21_ScriptBack.ann repriselaw21_ScriptBack.ok (Eq.mp repriselaw21_ScriptBack.eq h)

/-- reprise/repriselaw21.ScriptForth -/
def repriselaw21_ScriptForth.ann : Ann := .seq (.reg (.op 0 [] .nil)) (.seq (.seq (.reg (.op 0 [] (.op 1 [] .nil))) (.cond (.seq (.reg (.op 0 [] .nil)) .leaf) .leaf)) (.seq (.reg (.op 0 [] (.op 1 [] (.op 2 [] (.op 3 [] (.op 4 [] (.op 5 [] (.op 6 [] (.op 7 [] (.op 8 [] (.op 9 [] (.op 10 [] (.op 11 [] .nil))))))))))))) (.seq (.seq (.reg (.op 0 [] (.op 1 [] .nil))) (.cond (.seq (.reg (.op 0 [] (.op 1 [] (.op 2 [] (.op 3 [] (.split 24 (.op 4 [] (.op 5 [] (.op 6 [] (.op 7 [] .nil)))) 503316480 [(28, .leaf (.bool))] (.op 8 [] (.split 29 (.op 9 [] (.op 10 [] (.op 11 [] .nil))) 7516192768 [(32, .leaf (.bool))] (.op 12 [] (.split 33 (.op 13 [] (.op 14 [] (.op 15 [] (.op 16 [] (.op 17 [] (.op 18 [] .nil)))))) 1082331758592 [(39, .leaf (.bool))] (.op 19 [] (.split 40 (.op 20 [] (.op 21 [] (.op 22 [] (.op 23 [] (.op 24 [] (.op 25 [] (.op 26 [] .nil))))))) 279275953455104 [(47, .leaf (.bool))] (.op 27 [] .nil))))))))))))) .leaf) .leaf)) (.seq (.reg (.op 0 [] (.op 1 [] (.op 2 [] (.op 3 [] (.op 4 [] (.op 5 [] (.op 6 [] (.op 7 [] .nil))))))))) (.seq (.reg (.op 0 [] (.op 1 [] (.op 2 [] .nil)))) (.seq (.seq (.reg (.op 0 [] (.op 1 [] (.op 2 [] .nil)))) (.cond (.seq (.reg (.op 0 [] (.op 1 [] (.op 2 [] (.split 61 (.op 3 [] (.op 4 [] (.op 5 [] .nil))) 32281802128991715328 [(64, .leaf (.bool))] (.op 6 [] .nil)))))) .leaf) .leaf)) (.seq (.reg (.op 0 [] (.op 1 [] (.op 2 [] (.split 67 (.op 3 [] (.op 4 [] (.op 5 [] .nil))) 2066035336255469780992 [(70, .leaf (.bool))] (.op 6 [] (.split 71 (.op 7 [] (.op 8 [] (.op 9 [] (.op 10 [] .nil)))) 70835497243044678205440 [(75, .leaf (.bool))] (.op 11 [] .nil)))))))) .leaf)))))))
def repriselaw21_ScriptForth.F (a0 : ByteArray) (w : World) (K : Value → World → Prop) (X : List PanicEntry → World → Prop) : Prop :=
 call P 9 [] w (fun v1 w1 =>
 asB v1 fun b1 =>
 cnd (!b1) (
 K (.bool false) w1) (
 call P 12 [.string a0] w1 (fun v2 w2 =>
 tuN 4 v2 (fun v3 v4 v5 v6 => show Prop from
 agN 8 v3 (fun v7 v8 v9 v10 v11 v12 v13 v14 => show Prop from
 asI .i64 v7 fun n1 =>
 asI .i64 v8 fun n2 =>
 asI .i64 v9 fun n3 =>
 asL v10 fun q1 q1l q1c =>
 asI .i64 v11 fun n4 =>
 asI .i64 v12 fun n5 =>
 asI .i64 v13 fun n6 =>
 asI .i64 v14 fun n7 =>
 asL v4 fun q2 q2l q2c =>
 asI .i64 v5 fun n8 =>
 asI .i64 v6 fun n9 =>
 al w2 (.cells (#[.int .i64 0, .int .i64 0, .int .i64 0, .slice none 0 0, .int .i64 0, .int .i64 0, .int .i64 0, .int .i64 0]) 24) fun k1 w3 =>
 st w3 (⟨k1, 0, none⟩ : Addr) [.int .i64 n1, .int .i64 n2, .int .i64 n3, .slice q1 q1l q1c, .int .i64 n4, .int .i64 n5, .int .i64 n6, .int .i64 n7] fun w4 =>
 cnd (iNe n9 0) (
 ld w4 (⟨k1, 0, none⟩ : Addr) fun v15 =>
 asI .i64 v15 fun n10 =>
 ld w4 (⟨k1, 1, none⟩ : Addr) fun v16 =>
 asI .i64 v16 fun n11 =>
 ld w4 (⟨k1, 2, none⟩ : Addr) fun v17 =>
 asI .i64 v17 fun n12 =>
 ld w4 (⟨k1, 3, none⟩ : Addr) fun v18 =>
 asL v18 fun q3 q3l q3c =>
 ld w4 (⟨k1, 4, none⟩ : Addr) fun v19 =>
 asI .i64 v19 fun n13 =>
 ld w4 (⟨k1, 5, none⟩ : Addr) fun v20 =>
 asI .i64 v20 fun n14 =>
 ld w4 (⟨k1, 6, none⟩ : Addr) fun v21 =>
 asI .i64 v21 fun n15 =>
 ld w4 (⟨k1, 7, none⟩ : Addr) fun v22 =>
 asI .i64 v22 fun n16 =>
 call P 13 [.agg #[.int .i64 n10, .int .i64 n11, .int .i64 n12, .slice q3 q3l q3c, .int .i64 n13, .int .i64 n14, .int .i64 n15, .int .i64 n16], .agg #[.int .i64 0, .int .i64 0, .int .i64 0, .slice none 0 0, .int .i64 0, .int .i64 0, .int .i64 0, .int .i64 0]] w4 (fun v23 w5 =>
 asB v23 fun b2 =>
 ∀ K1 : List Value → World → Prop, (∀ b3 w6, (∀ _ : Env,
 ∀ K2 : List Value → World → Prop, (∀ b4 w7, (∀ _ : Env,
 ∀ K3 : List Value → World → Prop, (∀ b5 w8, (∀ _ : Env,
 ∀ K4 : List Value → World → Prop, (∀ b6 w9, (∀ _ : Env,
 K (.bool b6) w9) → K4 [.bool b6] w9) →
 cnd b5 (
 K4 [.bool ((iEq n9 6) == (iGt (lenN (ByteArray.size a0)) 262144))] w8) (
 K4 [.bool false] w8)) → K3 [.bool b5] w8) →
 cnd b4 (
 K3 [.bool ((iEq n8 0) == (iEq n9 6))] w7) (
 K3 [.bool false] w7)) → K2 [.bool b4] w7) →
 cnd b3 (
 K2 [.bool (iGe n8 0)] w6) (
 K2 [.bool false] w6)) → K1 [.bool b3] w6) →
 cnd b2 (
 K1 [.bool (iEq (lenN q2l) 0)] w5) (
 K1 [.bool false] w5)) X) (
 ld w4 (⟨k1, 0, none⟩ : Addr) fun v26 =>
 asI .i64 v26 fun n17 =>
 ld w4 (⟨k1, 1, none⟩ : Addr) fun v27 =>
 asI .i64 v27 fun n18 =>
 ld w4 (⟨k1, 2, none⟩ : Addr) fun v28 =>
 asI .i64 v28 fun n19 =>
 ld w4 (⟨k1, 3, none⟩ : Addr) fun v29 =>
 asL v29 fun q4 q4l q4c =>
 ld w4 (⟨k1, 4, none⟩ : Addr) fun v30 =>
 asI .i64 v30 fun n20 =>
 ld w4 (⟨k1, 5, none⟩ : Addr) fun v31 =>
 asI .i64 v31 fun n21 =>
 ld w4 (⟨k1, 6, none⟩ : Addr) fun v32 =>
 asI .i64 v32 fun n22 =>
 ld w4 (⟨k1, 7, none⟩ : Addr) fun v33 =>
 asI .i64 v33 fun n23 =>
 call P 10 [.agg #[.int .i64 n17, .int .i64 n18, .int .i64 n19, .slice q4 q4l q4c, .int .i64 n20, .int .i64 n21, .int .i64 n22, .int .i64 n23], .slice q2 q2l q2c] w4 (fun v34 w12 =>
 tuN 2 v34 (fun v35 v36 => show Prop from
 asS v35 fun s1 =>
 asI .i64 v36 fun n24 =>
 call P 15 [.string a0] w12 (fun v37 w13 =>
 asS v37 fun s2 =>
 cnd (iGt (lenN (ByteArray.size s2)) 262144) (
 ∀ K5 : List Value → World → Prop, (∀ b7 w15, (∀ _ : Env,
 K (.bool b7) w15) → K5 [.bool b7] w15) →
 cnd (iEq n24 6) (
 K5 [.bool (sEq s1 (bs []))] w13) (
 K5 [.bool false] w13)) (
 ∀ K6 : List Value → World → Prop, (∀ b8 w16, (∀ _ : Env,
 ∀ K7 : List Value → World → Prop, (∀ b9 w17, (∀ _ : Env,
 K (.bool b9) w17) → K7 [.bool b9] w17) →
 cnd b8 (
 K7 [.bool (sEq s1 s2)] w16) (
 K7 [.bool false] w16)) → K6 [.bool b8] w16) →
 cnd (iEq n8 0) (
 K6 [.bool (iEq n24 0)] w13) (
 K6 [.bool false] w13))) X)) X)))) X)) X
theorem repriselaw21_ScriptForth.ok : annOk Tryz.f5 repriselaw21_ScriptForth.ann (Tryz.f5.body.getD .skip) 1 = true := by kernel_rfl
theorem repriselaw21_ScriptForth.eq {a0 : ByteArray} {w : World} {K : Value → World → Prop} {X : List PanicEntry → World → Prop} : repriselaw21_ScriptForth.F a0 w K X = vc P repriselaw21_ScriptForth.ann (Tryz.f5.body.getD .skip) (retQ P Tryz.f5 K X) (argE [.string a0]) w := by kernel_rfl
theorem repriselaw21_ScriptForth.call {a0 : ByteArray} {w : World} {K : Value → World → Prop} {X : List PanicEntry → World → Prop} (h : repriselaw21_ScriptForth.F a0 w K X) : call P 5 [.string a0] w K X :=
  call_of good Tryz.func5 (c := (Tryz.f5.body.getD .skip)) (by kernel_rfl) repriselaw21_ScriptForth.ann repriselaw21_ScriptForth.ok (Eq.mp repriselaw21_ScriptForth.eq h)

/-- reprise/repriselaw21.awake -/
def repriselaw21_awake.ann : Ann := .seq (.reg (.op 0 [] .nil)) (.seq (.reg (.op 0 [] (.op 1 [] (.op 2 [] (.op 3 [] (.op 4 [] (.op 5 [] (.op 6 [] (.op 7 [] (.op 8 [] (.op 9 [] (.op 10 [] .nil)))))))))))) (.seq (.reg (.op 0 [] (.op 1 [] (.op 2 [] (.op 3 [] (.op 4 [] (.op 5 [] (.op 6 [] (.op 7 [] .nil))))))))) (.seq (.reg (.op 0 [] (.op 1 [] (.op 2 [] (.op 3 [] (.op 4 [] (.op 5 [] (.op 6 [] (.op 7 [] (.op 8 [] (.op 9 [] (.op 10 [] .nil)))))))))))) (.seq (.reg (.op 0 [] (.op 1 [] (.op 2 [] (.op 3 [] (.op 4 [] (.op 5 [] (.op 6 [] (.op 7 [] (.op 8 [] (.op 9 [] (.op 10 [] .nil)))))))))))) (.seq (.reg (.op 0 [] (.op 1 [] (.op 2 [] (.split 41 (.op 3 [] (.op 4 [] (.op 5 [] .nil))) 30786325577728 [(44, .leaf (.bool))] (.op 6 [] (.split 45 (.op 7 [] (.op 8 [] (.op 9 [] (.op 10 [] .nil)))) 1055531162664960 [(49, .leaf (.bool))] (.op 11 [] (.split 50 (.op 12 [] (.op 13 [] (.op 14 [] (.op 15 [] (.op 16 [] .nil))))) 69805794224242688 [(55, .leaf (.bool))] (.op 17 [] (.split 56 (.op 18 [] (.op 19 [] (.op 20 [] (.op 21 [] (.op 22 [] (.op 23 [] (.op 24 [] .nil))))))) 18302628885633695744 [(63, .leaf (.bool))] (.op 25 [] (.split 64 (.op 26 [] (.op 27 [] (.op 28 [] .nil))) 258254417031933722624 [(67, .leaf (.bool))] (.op 29 [] (.split 68 (.op 30 [] (.op 31 [] (.op 32 [] .nil))) 4132070672510939561984 [(71, .leaf (.bool))] (.op 33 [] (.split 72 (.op 34 [] (.op 35 [] (.op 36 [] .nil))) 66113130760175032991744 [(75, .leaf (.bool))] (.op 37 [] (.split 76 (.op 38 [] (.op 39 [] (.op 40 [] .nil))) 1057810092162800527867904 [(79, .leaf (.bool))] (.op 41 [] (.split 80 (.op 42 [] (.op 43 [] (.op 44 [] .nil))) 16924961474604808445886464 [(83, .leaf (.bool))] (.op 45 [] (.split 84 (.op 46 [] (.op 47 [] (.op 48 [] .nil))) 270799383593676935134183424 [(87, .leaf (.bool))] (.op 49 [] .nil)))))))))))))))))))))))) .leaf)))))
def repriselaw21_awake.F  (w : World) (K : Value → World → Prop) (X : List PanicEntry → World → Prop) : Prop :=
 call P 12 [.string (bs [112, 108, 97, 110, 32, 49, 32, 49, 32, 49, 32, 50, 32, 52, 32, 50, 32, 56, 10, 111, 112, 32, 52, 32, 48, 32, 48, 48, 48, 48, 48, 48, 48, 48, 48, 48, 48, 48, 48, 48, 48, 48, 10, 112, 114, 111, 100, 117, 99, 101, 32, 48, 32, 55, 32, 52, 48, 49, 52, 48, 48, 48, 48, 48, 48, 48, 48, 48, 48, 48, 48, 10, 35, 10, 116, 105, 99, 107, 10])] w (fun v1 w1 =>
 tuN 4 v1 (fun v2 v3 v4 v5 => show Prop from
 agN 8 v2 (fun v6 v7 v8 v9 v10 v11 v12 v13 => show Prop from
 asI .i64 v6 fun n1 =>
 asI .i64 v7 fun n2 =>
 asI .i64 v8 fun n3 =>
 asL v9 fun q1 q1l q1c =>
 asI .i64 v10 fun n4 =>
 asI .i64 v11 fun n5 =>
 asI .i64 v12 fun n6 =>
 asI .i64 v13 fun n7 =>
 asL v3 fun q2 q2l q2c =>
 asI .i64 v4 fun n8 =>
 asI .i64 v5 fun n9 =>
 al w1 (.cells (#[.int .i64 0, .int .i64 0, .int .i64 0, .slice none 0 0, .int .i64 0, .int .i64 0, .int .i64 0, .int .i64 0]) 24) fun k1 w2 =>
 st w2 (⟨k1, 0, none⟩ : Addr) [.int .i64 n1, .int .i64 n2, .int .i64 n3, .slice q1 q1l q1c, .int .i64 n4, .int .i64 n5, .int .i64 n6, .int .i64 n7] fun w3 =>
 ld w3 (⟨k1, 0, none⟩ : Addr) fun v14 =>
 asI .i64 v14 fun n10 =>
 ld w3 (⟨k1, 1, none⟩ : Addr) fun v15 =>
 asI .i64 v15 fun n11 =>
 ld w3 (⟨k1, 2, none⟩ : Addr) fun v16 =>
 asI .i64 v16 fun n12 =>
 ld w3 (⟨k1, 3, none⟩ : Addr) fun v17 =>
 asL v17 fun q3 q3l q3c =>
 ld w3 (⟨k1, 4, none⟩ : Addr) fun v18 =>
 asI .i64 v18 fun n13 =>
 ld w3 (⟨k1, 5, none⟩ : Addr) fun v19 =>
 asI .i64 v19 fun n14 =>
 ld w3 (⟨k1, 6, none⟩ : Addr) fun v20 =>
 asI .i64 v20 fun n15 =>
 ld w3 (⟨k1, 7, none⟩ : Addr) fun v21 =>
 asI .i64 v21 fun n16 =>
 call P 10 [.agg #[.int .i64 n10, .int .i64 n11, .int .i64 n12, .slice q3 q3l q3c, .int .i64 n13, .int .i64 n14, .int .i64 n15, .int .i64 n16], .slice q2 q2l q2c] w3 (fun v22 w4 =>
 tuN 2 v22 (fun v23 v24 => show Prop from
 asS v23 fun s1 =>
 asI .i64 v24 fun n17 =>
 call P 12 [.string (bs [112, 108, 97, 110, 32, 49, 32, 49, 32, 49, 32, 50, 32, 52, 32, 50, 32, 56, 10, 116, 105, 99, 107, 32, 49])] w4 (fun v25 w5 =>
 tuN 4 v25 (fun v26 v27 v28 v29 => show Prop from
 agN 8 v26 (fun v30 v31 v32 v33 v34 v35 v36 v37 => show Prop from
 asI .i64 v30 fun n18 =>
 asI .i64 v31 fun n19 =>
 asI .i64 v32 fun n20 =>
 asL v33 fun q4 q4l q4c =>
 asI .i64 v34 fun n21 =>
 asI .i64 v35 fun n22 =>
 asI .i64 v36 fun n23 =>
 asI .i64 v37 fun n24 =>
 asL v27 fun q5 q5l q5c =>
 asI .i64 v28 fun n25 =>
 asI .i64 v29 fun n26 =>
 al w5 (.cells (#[.int .i64 0, .int .i64 0, .int .i64 0, .slice none 0 0, .int .i64 0, .int .i64 0, .int .i64 0, .int .i64 0]) 24) fun k2 w6 =>
 st w6 (⟨k2, 0, none⟩ : Addr) [.int .i64 n18, .int .i64 n19, .int .i64 n20, .slice q4 q4l q4c, .int .i64 n21, .int .i64 n22, .int .i64 n23, .int .i64 n24] fun w7 =>
 call P 12 [.string (bs [116, 105, 99, 107])] w7 (fun v38 w8 =>
 tuN 4 v38 (fun v39 v40 v41 v42 => show Prop from
 agN 8 v39 (fun v43 v44 v45 v46 v47 v48 v49 v50 => show Prop from
 asI .i64 v43 fun n27 =>
 asI .i64 v44 fun n28 =>
 asI .i64 v45 fun n29 =>
 asL v46 fun q6 q6l q6c =>
 asI .i64 v47 fun n30 =>
 asI .i64 v48 fun n31 =>
 asI .i64 v49 fun n32 =>
 asI .i64 v50 fun n33 =>
 asL v40 fun q7 q7l q7c =>
 asI .i64 v41 fun n34 =>
 asI .i64 v42 fun n35 =>
 al w8 (.cells (#[.int .i64 0, .int .i64 0, .int .i64 0, .slice none 0 0, .int .i64 0, .int .i64 0, .int .i64 0, .int .i64 0]) 24) fun k3 w9 =>
 st w9 (⟨k3, 0, none⟩ : Addr) [.int .i64 n27, .int .i64 n28, .int .i64 n29, .slice q6 q6l q6c, .int .i64 n30, .int .i64 n31, .int .i64 n32, .int .i64 n33] fun w10 =>
 ∀ K1 : List Value → World → Prop, (∀ b1 w11, (∀ _ : Env,
 ∀ K2 : List Value → World → Prop, (∀ b2 w12, (∀ _ : Env,
 ∀ K3 : List Value → World → Prop, (∀ b3 w13, (∀ _ : Env,
 ∀ K4 : List Value → World → Prop, (∀ b4 w14, (∀ _ : Env,
 ∀ K5 : List Value → World → Prop, (∀ b5 w15, (∀ _ : Env,
 ∀ K6 : List Value → World → Prop, (∀ b6 w16, (∀ _ : Env,
 ∀ K7 : List Value → World → Prop, (∀ b7 w17, (∀ _ : Env,
 ∀ K8 : List Value → World → Prop, (∀ b8 w18, (∀ _ : Env,
 ∀ K9 : List Value → World → Prop, (∀ b9 w19, (∀ _ : Env,
 ∀ K10 : List Value → World → Prop, (∀ b10 w20, (∀ _ : Env,
 K (.bool b10) w20) → K10 [.bool b10] w20) →
 cnd b9 (
 K10 [.bool (iEq n35 210)] w19) (
 K10 [.bool false] w19)) → K9 [.bool b9] w19) →
 cnd b8 (
 K9 [.bool (iEq n34 1)] w18) (
 K9 [.bool false] w18)) → K8 [.bool b8] w18) →
 cnd b7 (
 K8 [.bool (iEq n26 211)] w17) (
 K8 [.bool false] w17)) → K7 [.bool b7] w17) →
 cnd b6 (
 K7 [.bool (iEq n25 2)] w16) (
 K7 [.bool false] w16)) → K6 [.bool b6] w16) →
 cnd b5 (
 K6 [.bool (sEq s1 (bs [112, 108, 97, 110, 32, 49, 32, 49, 32, 49, 32, 50, 32, 52, 32, 50, 32, 56, 10, 111, 112, 32, 52, 32, 48, 32, 48, 48, 48, 48, 48, 48, 48, 48, 48, 48, 48, 48, 48, 48, 48, 48, 10, 112, 114, 111, 100, 117, 99, 101, 32, 48, 32, 55, 32, 52, 48, 49, 52, 48, 48, 48, 48, 48, 48, 48, 48, 48, 48, 48, 48, 10, 116, 105, 99, 107, 10]))] w15) (
 K6 [.bool false] w15)) → K5 [.bool b5] w15) →
 cnd b4 (
 K5 [.bool (iEq n17 0)] w14) (
 K5 [.bool false] w14)) → K4 [.bool b4] w14) →
 cnd b3 (
 al w13 (.cells (#[.int .i64 1, .int .i64 0, .int .i64 0, .int .u64 7, .float .f64 4617315517961601024, .int .i64 3, .int .i64 0, .int .i64 0, .int .u64 0, .float .f64 0]) 46) fun k4 w21 =>
 call P 14 [.slice q2 q2l q2c, .slice (some ⟨k4, 0, none⟩) 2 2] w21 (fun v51 w22 =>
 asB v51 fun b11 =>
 K4 [.bool b11] w22) X) (
 K4 [.bool false] w13)) → K3 [.bool b3] w13) →
 cnd b2 (
 ld w12 (⟨k1, 3, none⟩ : Addr) fun v52 =>
 asL v52 fun q8 q8l q8c =>
 K3 [.bool (iEq (lenN q8l) 1)] w12) (
 K3 [.bool false] w12)) → K2 [.bool b2] w12) →
 cnd b1 (
 ld w11 (⟨k1, 7, none⟩ : Addr) fun v54 =>
 asI .i64 v54 fun n36 =>
 K2 [.bool (iEq n36 8)] w11) (
 K2 [.bool false] w11)) → K1 [.bool b1] w11) →
 cnd (iEq n9 0) (
 K1 [.bool (iEq n8 0)] w10) (
 K1 [.bool false] w10)))) X))) X)) X))) X
theorem repriselaw21_awake.ok : annOk Tryz.f9 repriselaw21_awake.ann (Tryz.f9.body.getD .skip) 0 = true := by kernel_rfl
theorem repriselaw21_awake.eq  {w : World} {K : Value → World → Prop} {X : List PanicEntry → World → Prop} : repriselaw21_awake.F  w K X = vc P repriselaw21_awake.ann (Tryz.f9.body.getD .skip) (retQ P Tryz.f9 K X) (argE []) w := by kernel_rfl
theorem repriselaw21_awake.call  {w : World} {K : Value → World → Prop} {X : List PanicEntry → World → Prop} (h : repriselaw21_awake.F  w K X) : call P 9 [] w K X :=
  call_of good Tryz.func9 (c := (Tryz.f9.body.getD .skip)) (by kernel_rfl) repriselaw21_awake.ann repriselaw21_awake.ok (Eq.mp repriselaw21_awake.eq h)

/-- reprise/script.Print -/
def script_Print.ann : Ann := .seq (.reg (.op 0 [] (.op 1 [] (.op 2 [] .nil)))) (.seq (.seq (.reg (.op 0 [] (.op 1 [] (.op 2 [] .nil)))) (.cond (.seq (.reg (.op 0 [] (.op 1 [] .nil))) .leaf) .leaf)) (.seq (.reg (.op 0 [] (.op 1 [] (.op 2 [] .nil)))) (.seq (.reg (.op 0 [] (.op 1 [] .nil))) (.seq (.seq (.reg (.op 0 [] (.op 1 [] (.op 2 [] (.op 3 [] (.op 4 [] (.op 5 [] (.op 6 [] (.op 7 [] (.op 8 [] (.op 9 [] (.op 10 [] (.op 11 [] (.op 12 [] (.op 13 [] (.op 14 [] (.op 15 [] (.op 16 [] .nil)))))))))))))))))) (.blk (.loop 140600049402112 [(37, .leaf (.int .i64))] (.seq (.reg (.op 0 [] .nil)) (.seq (.cond .leaf .leaf) (.seq (.blk (.seq (.reg (.op 0 [] (.op 1 [] (.op 2 [] .nil)))) (.reg (.op 0 [] (.op 1 [] (.op 2 [] (.op 3 [] (.op 4 [] .nil)))))))) (.reg (.op 0 [] (.op 1 [] .nil))))))))) (.seq (.reg (.op 0 [] (.op 1 [] .nil))) (.seqJ 151115726888878693417984 [] (.seq (.reg (.op 0 [] (.op 1 [] (.op 2 [] (.op 3 [] .nil))))) (.blk (.loop 151115722948229019468800 [(52, .leaf (.int .i64))] (.seq (.reg (.op 0 [] .nil)) (.seq (.cond .leaf .leaf) (.seq (.blk (.seq (.reg (.op 0 [] (.op 1 [] (.op 2 [] (.op 3 [] .nil))))) (.seq (.seq (.reg (.op 0 [] (.op 1 [] (.op 2 [] .nil)))) (.cond .leaf .leaf)) (.reg (.lt 0 (.lt 1 (.lt 6 (.lt 11 (.lt 2 (.lt 7 (.lt 12 (.op 3 [7, 12] (.lt 4 (.lt 5 (.op 8 [12] (.lt 9 (.lt 10 (.op 13 [] (.lt 14 (.lt 15 (.op 16 [] .nil))))))))))))))))))))) (.reg (.op 0 [] (.op 1 [] .nil))))))))) (.seq (.seq (.reg (.op 0 [] (.op 1 [] (.op 2 [] .nil)))) (.blk (.loop 1237335576375572960311783472 [(79, .leaf (.int .i64))] (.seq (.reg (.op 0 [] .nil)) (.seq (.cond .leaf .leaf) (.seq (.blk (.seq (.reg (.op 0 [] (.op 1 [] (.op 2 [] (.op 3 [] .nil))))) (.seq (.reg (.op 0 [] (.op 1 [] (.op 2 [] (.op 3 [] .nil))))) (.seq (.reg (.op 0 [] (.op 1 [] .nil))) (.cond (.seq (.reg (.op 0 [] (.op 1 [] (.op 2 [] .nil)))) .leaf) .leaf))))) (.reg (.op 0 [] (.op 1 [] .nil))))))))) (.seq (.seq (.reg (.op 0 [] (.op 1 [] (.op 2 [] .nil)))) (.cond (.seq (.reg (.op 0 [] (.op 1 [] .nil))) .leaf) .leaf)) (.seq (.reg (.op 0 [] (.op 1 [] (.op 2 [] (.op 3 [] .nil))))) .leaf)))))))))
def script_Print.F (a0_0 : Int) (a0_1 : Int) (a0_2 : Int) (a0_3 : Option Addr) (a0_3l : Nat) (a0_3c : Nat) (a0_4 : Int) (a0_5 : Int) (a0_6 : Int) (a0_7 : Int) (a1 : Option Addr) (a1l : Nat) (a1c : Nat) (w : World) (K : Value → World → Prop) (X : List PanicEntry → World → Prop) : Prop :=
 al w (.cells (#[.int .i64 a0_0, .int .i64 a0_1, .int .i64 a0_2, .slice a0_3 a0_3l a0_3c, .int .i64 a0_4, .int .i64 a0_5, .int .i64 a0_6, .int .i64 a0_7]) 24) fun k1 w1 =>
 cnd (iGt (lenN a1l) 4096) (
 K (.tuple #[.string (bs []), .int .i64 212]) w1) (
 al w1 (.cells (#[.pointer none, .slice none 0 0]) 52) fun k2 w3 =>
 call P 16 [.pointer (some ⟨k2, 0, none⟩), .string (bs [112, 108, 97, 110])] w3 (fun v2 w4 =>
 tuN 2 v2 (fun v3 v4 => show Prop from
 asI .i64 v3 fun n1 =>
 ld w4 (⟨k1, 0, none⟩ : Addr) fun v5 =>
 asI .i64 v5 fun n2 =>
 ld w4 (⟨k1, 1, none⟩ : Addr) fun v6 =>
 asI .i64 v6 fun n3 =>
 ld w4 (⟨k1, 2, none⟩ : Addr) fun v7 =>
 asI .i64 v7 fun n4 =>
 ld w4 (⟨k1, 4, none⟩ : Addr) fun v8 =>
 asI .i64 v8 fun n5 =>
 ld w4 (⟨k1, 5, none⟩ : Addr) fun v9 =>
 asI .i64 v9 fun n6 =>
 ld w4 (⟨k1, 6, none⟩ : Addr) fun v10 =>
 asI .i64 v10 fun n7 =>
 ld w4 (⟨k1, 7, none⟩ : Addr) fun v11 =>
 asI .i64 v11 fun n8 =>
 al w4 (.cells (#[.int .i64 n2, .int .i64 n3, .int .i64 n4, .int .i64 n5, .int .i64 n6, .int .i64 n7, .int .i64 n8]) 3) fun k3 w5 =>
 ∀ L1 : List Value → World → Prop, (∀ n9 w7, (∀ _ : Env,
 cnd (iLt n9 (lenN 7)) (
 inB n9 7 ∧ 
 ∀ d1, d1 = Addr.add (⟨k3, 0, none⟩ : Addr) (scale (Int.toNat n9) 1) →
 ld w7 d1 fun v13 =>
 asI .i64 v13 fun n10 =>
 call P 17 [.int .i64 n10] w7 (fun v14 w8 =>
 asS v14 fun s1 =>
 catOk (bs [32]) s1 ∧
 call P 16 [.pointer (some ⟨k2, 0, none⟩), .string (cat (bs [32]) s1)] w8 (fun v15 w9 =>
 tuN 2 v15 (fun v16 v17 => show Prop from
 asI .i64 v16 fun n11 =>
 L1 [.int .i64 (iAdd .i64 n9 1)] w9)) X) X) (
 call P 18 [.pointer (some ⟨k2, 0, none⟩), .int .u8 10] w7 (fun v18 w10 =>
 ∀ K1 : List Value → World → Prop, (∀ w11, (∀ _ : Env,
 ∀ L2 : List Value → World → Prop, (∀ n12 w13, (∀ _ : Env,
 cnd (iLt n12 (lenN a1l)) (
 inB n12 a1l ∧ nn a1 fun d3 =>
 ∀ d2, d2 = Addr.add d3 (scale (Int.toNat n12) 5) →
 ld w13 d2 fun v20 =>
 asI .i64 v20 fun n13 =>
 ld w13 (Addr.add d2 1) fun v21 =>
 asI .i64 v21 fun n14 =>
 ld w13 (Addr.add d2 2) fun v22 =>
 asI .i64 v22 fun n15 =>
 ld w13 (Addr.add d2 3) fun v23 =>
 asI .u64 v23 fun n16 =>
 ld w13 (Addr.add d2 4) fun v24 =>
 asF .f64 v24 fun x1 =>
 al w13 (.cells (#[.int .i64 0, .int .i64 0, .int .i64 0, .int .u64 0, .float .f64 0]) 46) fun k4 w14 =>
 st w14 (⟨k4, 0, none⟩ : Addr) [.int .i64 n13, .int .i64 n14, .int .i64 n15, .int .u64 n16, .float .f64 x1] fun w15 =>
 ld w15 (⟨k4, 0, none⟩ : Addr) fun v25 =>
 asI .i64 v25 fun n17 =>
 ld w15 (⟨k4, 1, none⟩ : Addr) fun v26 =>
 asI .i64 v26 fun n18 =>
 ld w15 (⟨k4, 2, none⟩ : Addr) fun v27 =>
 asI .i64 v27 fun n19 =>
 ld w15 (⟨k4, 3, none⟩ : Addr) fun v28 =>
 asI .u64 v28 fun n20 =>
 ld w15 (⟨k4, 4, none⟩ : Addr) fun v29 =>
 asF .f64 v29 fun x2 =>
 call P 22 [.pointer (some ⟨k2, 0, none⟩), .agg #[.int .i64 n17, .int .i64 n18, .int .i64 n19, .int .u64 n20, .float .f64 x2]] w15 (fun v30 w16 =>
 asI .i64 v30 fun n21 =>
 cnd (iNe n21 0) (
 K (.tuple #[.string (bs []), .int .i64 n21]) w16) (
 L2 [.int .i64 (iAdd .i64 n12 1)] w16)) X) (
 call P 19 [.pointer (some ⟨k2, 0, none⟩)] w13 (fun v31 w17 =>
 asI .i64 v31 fun n22 =>
 cnd (iGt n22 262144) (
 K (.tuple #[.string (bs []), .int .i64 6]) w17) (
 call P 23 [.pointer (some ⟨k2, 0, none⟩)] w17 (fun v32 w18 =>
 asS v32 fun s2 =>
 K (.tuple #[.string s2, .int .i64 0]) w18) X)) X)) → L2 [.int .i64 n12] w13) → L2 [.int .i64 0] w11) → K1 [] w11) →
 ld w10 (⟨k1, 3, none⟩ : Addr) fun v33 =>
 asL v33 fun q1 q1l q1c =>
 ∀ L3 : List Value → World → Prop, (∀ n23 w20, (∀ _ : Env,
 cnd (iLt n23 (lenN q1l)) (
 inB n23 q1l ∧ nn q1 fun d5 =>
 ∀ d4, d4 = Addr.add d5 (scale (Int.toNat n23) 3) →
 ld w20 d4 fun v35 =>
 asI .i64 v35 fun n24 =>
 ld w20 (Addr.add d4 1) fun v36 =>
 asI .i64 v36 fun n25 =>
 ld w20 (Addr.add d4 2) fun v37 =>
 asF .f64 v37 fun x3 =>
 al w20 (.cells (#[.int .i64 0, .int .i64 0, .float .f64 0]) 49) fun k5 w21 =>
 st w21 (⟨k5, 0, none⟩ : Addr) [.int .i64 n24, .int .i64 n25, .float .f64 x3] fun w22 =>
 call P 19 [.pointer (some ⟨k2, 0, none⟩)] w22 (fun v38 w23 =>
 asI .i64 v38 fun n26 =>
 cnd (iGt n26 262144) (
 K1 [] w23) (
 ∀ w24, w24 = World.drew w23 →
 ld w24 (⟨k5, 0, none⟩ : Addr) fun v39 =>
 asI .i64 v39 fun n27 =>
 ld w24 (⟨k5, 1, none⟩ : Addr) fun v40 =>
 asI .i64 v40 fun n28 =>
 ld w24 (⟨k5, 2, none⟩ : Addr) fun v41 =>
 asF .f64 v41 fun x4 =>
 call P 17 [.int .i64 n27] w24 (fun v42 w25 =>
 asS v42 fun s3 =>
 World.cell? w25 (⟨k5, 1, none⟩ : Addr) = some (.int .i64 n28) ∧
 World.cell? w25 (⟨k5, 2, none⟩ : Addr) = some (.float .f64 x4) ∧
 catOk (bs [111, 112, 32]) s3 ∧
 catOk (cat (bs [111, 112, 32]) s3) (bs [32]) ∧
 call P 20 [.int .i64 n28, .int .i64 10] w25 (fun v43 w26 =>
 asS v43 fun s4 =>
 World.cell? w26 (⟨k5, 2, none⟩ : Addr) = some (.float .f64 x4) ∧
 catOk (cat (cat (bs [111, 112, 32]) s3) (bs [32])) s4 ∧
 catOk (cat (cat (cat (bs [111, 112, 32]) s3) (bs [32])) s4) (bs [32]) ∧
 call P 21 [.float .f64 x4] w26 (fun v44 w27 =>
 asS v44 fun s5 =>
 catOk (cat (cat (cat (cat (bs [111, 112, 32]) s3) (bs [32])) s4) (bs [32])) s5 ∧
 catOk (cat (cat (cat (cat (cat (bs [111, 112, 32]) s3) (bs [32])) s4) (bs [32])) s5) (bs [10]) ∧
 call P 16 [.pointer (some ⟨k2, 0, none⟩), .string (cat (cat (cat (cat (cat (cat (bs [111, 112, 32]) s3) (bs [32])) s4) (bs [32])) s5) (bs [10]))] w27 (fun v45 w28 =>
 tuN 2 v45 (fun v46 v47 => show Prop from
 asI .i64 v46 fun n29 =>
 L3 [.int .i64 (iAdd .i64 n23 1)] w28)) X) X) X) X)) X) (
 K1 [] w20)) → L3 [.int .i64 n23] w20) → L3 [.int .i64 0] w10) X)) → L1 [.int .i64 n9] w7) → L1 [.int .i64 0] w5)) X)
theorem script_Print.ok : annOk Tryz.f10 script_Print.ann (Tryz.f10.body.getD .skip) 2 = true := by kernel_rfl
theorem script_Print.eq {a0_0 : Int} {a0_1 : Int} {a0_2 : Int} {a0_3 : Option Addr} {a0_3l : Nat} {a0_3c : Nat} {a0_4 : Int} {a0_5 : Int} {a0_6 : Int} {a0_7 : Int} {a1 : Option Addr} {a1l : Nat} {a1c : Nat} {w : World} {K : Value → World → Prop} {X : List PanicEntry → World → Prop} : script_Print.F a0_0 a0_1 a0_2 a0_3 a0_3l a0_3c a0_4 a0_5 a0_6 a0_7 a1 a1l a1c w K X = vc P script_Print.ann (Tryz.f10.body.getD .skip) (retQ P Tryz.f10 K X) (argE [.agg #[.int .i64 a0_0, .int .i64 a0_1, .int .i64 a0_2, .slice a0_3 a0_3l a0_3c, .int .i64 a0_4, .int .i64 a0_5, .int .i64 a0_6, .int .i64 a0_7], .slice a1 a1l a1c]) w := by kernel_rfl
theorem script_Print.call {a0_0 : Int} {a0_1 : Int} {a0_2 : Int} {a0_3 : Option Addr} {a0_3l : Nat} {a0_3c : Nat} {a0_4 : Int} {a0_5 : Int} {a0_6 : Int} {a0_7 : Int} {a1 : Option Addr} {a1l : Nat} {a1c : Nat} {w : World} {K : Value → World → Prop} {X : List PanicEntry → World → Prop} (h : script_Print.F a0_0 a0_1 a0_2 a0_3 a0_3l a0_3c a0_4 a0_5 a0_6 a0_7 a1 a1l a1c w K X) : call P 10 [.agg #[.int .i64 a0_0, .int .i64 a0_1, .int .i64 a0_2, .slice a0_3 a0_3l a0_3c, .int .i64 a0_4, .int .i64 a0_5, .int .i64 a0_6, .int .i64 a0_7], .slice a1 a1l a1c] w K X :=
  call_of good Tryz.func10 (c := (Tryz.f10.body.getD .skip)) (by kernel_rfl) script_Print.ann script_Print.ok (Eq.mp script_Print.eq h)

/-- reprise/repriseref21.Print -/
def repriseref21_Print.ann : Ann := .seq (.reg (.op 0 [] (.op 1 [] (.op 2 [] .nil)))) (.seq (.seq (.reg (.op 0 [] (.op 1 [] (.op 2 [] .nil)))) (.cond (.seq (.reg (.op 0 [] (.op 1 [] .nil))) .leaf) .leaf)) (.seq (.reg (.op 0 [] (.op 1 [] .nil))) (.seq (.reg (.op 0 [] (.op 1 [] (.op 2 [] .nil)))) (.seq (.reg (.op 0 [] (.op 1 [] (.op 2 [] (.op 3 [] (.op 4 [] (.op 5 [] (.op 6 [] (.op 7 [] (.op 8 [] (.op 9 [] (.op 10 [] (.op 11 [] (.op 12 [] (.op 13 [] (.op 14 [] (.op 15 [] (.op 16 [] .nil)))))))))))))))))) (.seq (.seq (.reg (.op 0 [] .nil)) (.blk (.loop 140720308486464 [(6, .leaf (.slice)), (8, .leaf (.int .i64))] (.seq (.seq (.reg (.op 0 [] (.op 1 [] .nil))) (.cond .leaf .leaf)) (.seq (.blk (.seq (.reg (.op 0 [] (.op 1 [] (.op 2 [] (.op 3 [] .nil))))) (.reg (.op 0 [] (.op 1 [] (.op 2 [] (.op 3 [] (.op 4 [] (.op 5 [] (.op 6 [] .nil)))))))))) (.reg (.op 0 [] (.op 1 [] (.op 2 [] .nil))))))))) (.seq (.reg (.op 0 [] (.op 1 [] (.op 2 [] (.op 3 [] .nil))))) (.seq (.seq (.reg (.op 0 [] .nil)) (.blk (.loop 1267650600228228275596796363328 [(6, .leaf (.slice)), (9, .leaf (.int .i64))] (.seq (.seq (.reg (.op 0 [] (.op 1 [] (.op 2 [] (.op 3 [] (.op 4 [] (.op 5 [] (.split 55 (.op 6 [] (.op 7 [] (.op 8 [] (.op 9 [] .nil)))) 1080863910568919040 [(59, .leaf (.bool))] .nil)))))))) (.cond .leaf .leaf)) (.seq (.blk (.seq (.reg (.op 0 [] (.op 1 [] (.op 2 [] .nil)))) (.seq (.reg (.op 0 [] (.op 1 [] (.op 2 [] (.op 3 [] (.op 4 [] (.op 5 [] (.op 6 [] (.op 7 [] (.op 8 [] (.op 9 [] .nil))))))))))) (.seq (.reg (.op 0 [] (.op 1 [] (.op 2 [] (.op 3 [] .nil))))) (.seq (.reg (.op 0 [] (.op 1 [] (.op 2 [] (.op 3 [] (.op 4 [] (.op 5 [] (.op 6 [] (.op 7 [] (.op 8 [] (.op 9 [] .nil))))))))))) (.seq (.reg (.op 0 [] (.op 1 [] (.op 2 [] (.op 3 [] .nil))))) (.seq (.reg (.op 0 [] (.op 1 [] (.op 2 [] (.op 3 [] (.op 4 [] (.op 5 [] (.op 6 [] (.op 7 [] (.op 8 [] (.op 9 [] .nil))))))))))) (.reg (.op 0 [] (.op 1 [] (.op 2 [] (.op 3 [] .nil)))))))))))) (.reg (.op 0 [] (.op 1 [] (.op 2 [] .nil))))))))) (.seq (.seq (.reg (.op 0 [] .nil)) (.blk (.loop 10633822698628726755001054985539558512 [(6, .leaf (.slice)), (10, .leaf (.int .i64))] (.seq (.seq (.reg (.op 0 [] (.op 1 [] (.op 2 [] (.op 3 [] .nil))))) (.cond .leaf .leaf)) (.seq (.blk (.seq (.reg (.op 0 [] (.op 1 [] (.op 2 [] (.op 3 [] (.op 4 [] (.op 5 [] (.op 6 [] (.op 7 [] (.op 8 [] (.op 9 [] .nil))))))))))) (.seq (.seq (.reg (.op 0 [] (.op 1 [] .nil))) (.cond (.seq (.reg (.op 0 [] (.op 1 [] (.op 2 [] .nil)))) .leaf) .leaf)) (.seq (.reg (.op 0 [] (.op 1 [] (.op 2 [] (.op 3 [] .nil))))) (.reg (.op 0 [] (.op 1 [] (.op 2 [] (.op 3 [] .nil))))))))) (.reg (.op 0 [] (.op 1 [] (.op 2 [] .nil))))))))) (.seq (.seq (.reg (.op 0 [] (.op 1 [] (.op 2 [] .nil)))) (.cond (.seq (.reg (.op 0 [] (.op 1 [] .nil))) .leaf) .leaf)) (.seq (.reg (.op 0 [] (.op 1 [] (.op 2 [] (.op 3 [] .nil))))) .leaf))))))))))
def repriseref21_Print.F (a0_0 : Int) (a0_1 : Int) (a0_2 : Int) (a0_3 : Option Addr) (a0_3l : Nat) (a0_3c : Nat) (a0_4 : Int) (a0_5 : Int) (a0_6 : Int) (a0_7 : Int) (a1 : Option Addr) (a1l : Nat) (a1c : Nat) (w : World) (K : Value → World → Prop) (X : List PanicEntry → World → Prop) : Prop :=
 al w (.cells (#[.int .i64 a0_0, .int .i64 a0_1, .int .i64 a0_2, .slice a0_3 a0_3l a0_3c, .int .i64 a0_4, .int .i64 a0_5, .int .i64 a0_6, .int .i64 a0_7]) 24) fun k1 w1 =>
 cnd (iGt (lenN a1l) 4096) (
 K (.tuple #[.string (bs []), .int .i64 212]) w1) (
 al w1 (.cells (#[]) 5) fun k2 w3 =>
 runV P (Builtin.append_ #[39, 9] 39 #[.slice (some ⟨k2, 0, none⟩) 0 0, .string (bs [112, 108, 97, 110])]) w3 (fun v3 w5 =>
 asL v3 fun q1 q1l q1c =>
 ld w5 (⟨k1, 0, none⟩ : Addr) fun v4 =>
 asI .i64 v4 fun n1 =>
 ld w5 (⟨k1, 1, none⟩ : Addr) fun v5 =>
 asI .i64 v5 fun n2 =>
 ld w5 (⟨k1, 2, none⟩ : Addr) fun v6 =>
 asI .i64 v6 fun n3 =>
 ld w5 (⟨k1, 4, none⟩ : Addr) fun v7 =>
 asI .i64 v7 fun n4 =>
 ld w5 (⟨k1, 5, none⟩ : Addr) fun v8 =>
 asI .i64 v8 fun n5 =>
 ld w5 (⟨k1, 6, none⟩ : Addr) fun v9 =>
 asI .i64 v9 fun n6 =>
 ld w5 (⟨k1, 7, none⟩ : Addr) fun v10 =>
 asI .i64 v10 fun n7 =>
 al w5 (.cells (#[.int .i64 0, .int .i64 0, .int .i64 0, .int .i64 0, .int .i64 0, .int .i64 0, .int .i64 0]) 65) fun k3 w6 =>
 st w6 (⟨k3, 0, none⟩ : Addr) [.int .i64 n1, .int .i64 n2, .int .i64 n3, .int .i64 n4, .int .i64 n5, .int .i64 n6, .int .i64 n7] fun w7 =>
 ∀ L1 : List Value → World → Prop, (∀ q2 q2l q2c n8 w8, (∀ _ : Env,
 cnd (iLt n8 7) (
 al w8 (.cells (#[.int .u8 32]) 5) fun k4 w9 =>
 runV P (Builtin.append_ #[39, 39] 39 #[.slice q2 q2l q2c, .slice (some ⟨k4, 0, none⟩) 1 1]) w9 (fun v12 w11 =>
 asL v12 fun q3 q3l q3c =>
 inB n8 7 ∧
 ∀ d1, d1 = Addr.add (⟨k3, 0, none⟩ : Addr) (scale (Int.toNat n8) 1) →
 ld w11 d1 fun v13 =>
 asI .i64 v13 fun n9 =>
 call P 24 [.int .i64 n9] w11 (fun v14 w12 =>
 asS v14 fun s1 =>
 runV P (Builtin.append_ #[39, 9] 39 #[.slice q3 q3l q3c, .string s1]) w12 (fun v16 w14 =>
 asL v16 fun q4 q4l q4c =>
 L1 [.slice q4 q4l q4c, .int .i64 (iAdd .i64 n8 1)] w14) X) X) X) (
 al w8 (.cells (#[.int .u8 10]) 5) fun k5 w15 =>
 runV P (Builtin.append_ #[39, 39] 39 #[.slice q2 q2l q2c, .slice (some ⟨k5, 0, none⟩) 1 1]) w15 (fun v18 w17 =>
 asL v18 fun q5 q5l q5c =>
 ∀ L2 : List Value → World → Prop, (∀ q6 q6l q6c n10 w18, (∀ _ : Env,
 ld w18 (⟨k1, 3, none⟩ : Addr) fun v19 =>
 asL v19 fun q7 q7l q7c =>
 ∀ K1 : List Value → World → Prop, (∀ b1 w20, (∀ _ : Env,
 cnd b1 (
 runV P (Builtin.append_ #[39, 9] 39 #[.slice q6 q6l q6c, .string (bs [111, 112, 32])]) w20 (fun v22 w22 =>
 asL v22 fun q8 q8l q8c =>
 ld w22 (⟨k1, 3, none⟩ : Addr) fun v23 =>
 asL v23 fun q9 q9l q9c =>
 inB n10 q9l ∧ nn q9 fun d3 =>
 ∀ d2, d2 = Addr.add d3 (scale (Int.toNat n10) 3) →
 ld w22 d2 fun v24 =>
 asI .i64 v24 fun n11 =>
 call P 24 [.int .i64 n11] w22 (fun v25 w23 =>
 asS v25 fun s2 =>
 runV P (Builtin.append_ #[39, 9] 39 #[.slice q8 q8l q8c, .string s2]) w23 (fun v27 w25 =>
 asL v27 fun q10 q10l q10c =>
 al w25 (.cells (#[.int .u8 32]) 5) fun k6 w26 =>
 runV P (Builtin.append_ #[39, 39] 39 #[.slice q10 q10l q10c, .slice (some ⟨k6, 0, none⟩) 1 1]) w26 (fun v29 w28 =>
 asL v29 fun q11 q11l q11c =>
 ld w28 (⟨k1, 3, none⟩ : Addr) fun v30 =>
 asL v30 fun q12 q12l q12c =>
 inB n10 q12l ∧ nn q12 fun d5 =>
 ∀ d4, d4 = Addr.add d5 (scale (Int.toNat n10) 3) →
 ld w28 (Addr.add d4 1) fun v31 =>
 asI .i64 v31 fun n12 =>
 call P 24 [.int .i64 n12] w28 (fun v32 w29 =>
 asS v32 fun s3 =>
 runV P (Builtin.append_ #[39, 9] 39 #[.slice q11 q11l q11c, .string s3]) w29 (fun v34 w31 =>
 asL v34 fun q13 q13l q13c =>
 al w31 (.cells (#[.int .u8 32]) 5) fun k7 w32 =>
 runV P (Builtin.append_ #[39, 39] 39 #[.slice q13 q13l q13c, .slice (some ⟨k7, 0, none⟩) 1 1]) w32 (fun v36 w34 =>
 asL v36 fun q14 q14l q14c =>
 ld w34 (⟨k1, 3, none⟩ : Addr) fun v37 =>
 asL v37 fun q15 q15l q15c =>
 inB n10 q15l ∧ nn q15 fun d7 =>
 ∀ d6, d6 = Addr.add d7 (scale (Int.toNat n10) 3) →
 ld w34 (Addr.add d6 2) fun v38 =>
 asF .f64 v38 fun x1 =>
 call P 25 [.float .f64 x1] w34 (fun v39 w35 =>
 asS v39 fun s4 =>
 runV P (Builtin.append_ #[39, 9] 39 #[.slice q14 q14l q14c, .string s4]) w35 (fun v41 w37 =>
 asL v41 fun q16 q16l q16c =>
 al w37 (.cells (#[.int .u8 10]) 5) fun k8 w38 =>
 runV P (Builtin.append_ #[39, 39] 39 #[.slice q16 q16l q16c, .slice (some ⟨k8, 0, none⟩) 1 1]) w38 (fun v43 w40 =>
 asL v43 fun q17 q17l q17c =>
 L2 [.slice q17 q17l q17c, .int .i64 (iAdd .i64 n10 1)] w40) X) X) X) X) X) X) X) X) X) X) (
 ∀ L3 : List Value → World → Prop, (∀ q18 q18l q18c n13 w41, (∀ _ : Env,
 cnd (iLt n13 (lenN a1l)) (
 inB n13 a1l ∧ nn a1 fun d9 =>
 ∀ d8, d8 = Addr.add d9 (scale (Int.toNat n13) 5) →
 ld w41 d8 fun v45 =>
 asI .i64 v45 fun n14 =>
 ld w41 (Addr.add d8 1) fun v46 =>
 asI .i64 v46 fun n15 =>
 ld w41 (Addr.add d8 2) fun v47 =>
 asI .i64 v47 fun n16 =>
 ld w41 (Addr.add d8 3) fun v48 =>
 asI .u64 v48 fun n17 =>
 ld w41 (Addr.add d8 4) fun v49 =>
 asF .f64 v49 fun x2 =>
 call P 26 [.agg #[.int .i64 n14, .int .i64 n15, .int .i64 n16, .int .u64 n17, .float .f64 x2]] w41 (fun v50 w43 =>
 tuN 2 v50 (fun v51 v52 => show Prop from
 asS v51 fun s5 =>
 asI .i64 v52 fun n18 =>
 cnd (iNe n18 0) (
 K (.tuple #[.string (bs []), .int .i64 n18]) w43) (
 runV P (Builtin.append_ #[39, 9] 39 #[.slice q18 q18l q18c, .string s5]) w43 (fun v54 w45 =>
 asL v54 fun q19 q19l q19c =>
 al w45 (.cells (#[.int .u8 10]) 5) fun k9 w46 =>
 runV P (Builtin.append_ #[39, 39] 39 #[.slice q19 q19l q19c, .slice (some ⟨k9, 0, none⟩) 1 1]) w46 (fun v56 w48 =>
 asL v56 fun q20 q20l q20c =>
 L3 [.slice q20 q20l q20c, .int .i64 (iAdd .i64 n13 1)] w48) X) X))) X) (
 cnd (iGt (lenN q18l) 262144) (
 K (.tuple #[.string (bs []), .int .i64 6]) w41) (
 runV P (convert 39 9 (.slice q18 q18l q18c)) w41 (fun v58 w50 =>
 asS v58 fun s6 =>
 K (.tuple #[.string s6, .int .i64 0]) w50) X))) → L3 [.slice q18 q18l q18c, .int .i64 n13] w41) → L3 [.slice q6 q6l q6c, .int .i64 0] w20)) → K1 [.bool b1] w20) →
 cnd (iLt n10 (lenN q7l)) (
 K1 [.bool (iLe (lenN q6l) 262144)] w18) (
 K1 [.bool false] w18)) → L2 [.slice q6 q6l q6c, .int .i64 n10] w18) → L2 [.slice q5 q5l q5c, .int .i64 0] w17) X)) → L1 [.slice q2 q2l q2c, .int .i64 n8] w8) → L1 [.slice q1 q1l q1c, .int .i64 0] w7) X)
theorem repriseref21_Print.ok : annOk Tryz.f11 repriseref21_Print.ann (Tryz.f11.body.getD .skip) 2 = true := by kernel_rfl
theorem repriseref21_Print.eq {a0_0 : Int} {a0_1 : Int} {a0_2 : Int} {a0_3 : Option Addr} {a0_3l : Nat} {a0_3c : Nat} {a0_4 : Int} {a0_5 : Int} {a0_6 : Int} {a0_7 : Int} {a1 : Option Addr} {a1l : Nat} {a1c : Nat} {w : World} {K : Value → World → Prop} {X : List PanicEntry → World → Prop} : repriseref21_Print.F a0_0 a0_1 a0_2 a0_3 a0_3l a0_3c a0_4 a0_5 a0_6 a0_7 a1 a1l a1c w K X = vc P repriseref21_Print.ann (Tryz.f11.body.getD .skip) (retQ P Tryz.f11 K X) (argE [.agg #[.int .i64 a0_0, .int .i64 a0_1, .int .i64 a0_2, .slice a0_3 a0_3l a0_3c, .int .i64 a0_4, .int .i64 a0_5, .int .i64 a0_6, .int .i64 a0_7], .slice a1 a1l a1c]) w := by kernel_rfl
theorem repriseref21_Print.call {a0_0 : Int} {a0_1 : Int} {a0_2 : Int} {a0_3 : Option Addr} {a0_3l : Nat} {a0_3c : Nat} {a0_4 : Int} {a0_5 : Int} {a0_6 : Int} {a0_7 : Int} {a1 : Option Addr} {a1l : Nat} {a1c : Nat} {w : World} {K : Value → World → Prop} {X : List PanicEntry → World → Prop} (h : repriseref21_Print.F a0_0 a0_1 a0_2 a0_3 a0_3l a0_3c a0_4 a0_5 a0_6 a0_7 a1 a1l a1c w K X) : call P 11 [.agg #[.int .i64 a0_0, .int .i64 a0_1, .int .i64 a0_2, .slice a0_3 a0_3l a0_3c, .int .i64 a0_4, .int .i64 a0_5, .int .i64 a0_6, .int .i64 a0_7], .slice a1 a1l a1c] w K X :=
  call_of good Tryz.func11 (c := (Tryz.f11.body.getD .skip)) (by kernel_rfl) repriseref21_Print.ann repriseref21_Print.ok (Eq.mp repriseref21_Print.eq h)

/-- reprise/repriselaw21.plans -/
def repriselaw21_plans.ann : Ann := .seq (.reg (.op 0 [] (.op 1 [] (.op 2 [] .nil)))) (.seq (.seq (.reg (.op 0 [] (.op 1 [] (.op 2 [] (.op 3 [] (.op 4 [] (.op 5 [] (.split 11 (.op 6 [] (.op 7 [] (.op 8 [] (.op 9 [] (.op 10 [] (.op 11 [] .nil)))))) 258048 [(17, .leaf (.bool))] (.op 12 [] (.split 18 (.op 13 [] (.op 14 [] (.op 15 [] (.op 16 [] (.op 17 [] (.op 18 [] .nil)))))) 33030144 [(24, .leaf (.bool))] (.op 19 [] (.split 25 (.op 20 [] (.op 21 [] (.op 22 [] (.op 23 [] (.op 24 [] (.op 25 [] .nil)))))) 4227858432 [(31, .leaf (.bool))] (.op 26 [] (.split 32 (.op 27 [] (.op 28 [] (.op 29 [] (.op 30 [] (.op 31 [] (.op 32 [] .nil)))))) 541165879296 [(38, .leaf (.bool))] (.op 33 [] (.split 39 (.op 34 [] (.op 35 [] (.op 36 [] (.op 37 [] (.op 38 [] (.op 39 [] .nil)))))) 69269232549888 [(45, .leaf (.bool))] (.op 40 [] (.split 46 (.op 41 [] (.op 42 [] (.op 43 [] (.op 44 [] (.op 45 [] (.op 46 [] .nil)))))) 8866461766385664 [(52, .leaf (.bool))] (.op 47 [] (.split 53 (.op 48 [] (.op 49 [] (.op 50 [] (.op 51 [] (.op 52 [] (.op 53 [] (.op 54 [] (.op 55 [] .nil)))))))) 4593671619917905920 [(61, .leaf (.bool))] .nil)))))))))))))))))))) (.cond (.seq (.reg (.op 0 [] .nil)) .leaf) .leaf)) (.seq (.seq (.reg (.op 0 [] .nil)) (.blk (.loop 10384593717069650645374974231052336 [(5, .leaf (.int .i64))] (.seq (.seq (.reg (.op 0 [] (.op 1 [] (.op 2 [] (.op 3 [] (.op 4 [] .nil)))))) (.cond .leaf .leaf)) (.seq (.blk (.seq (.reg (.lt 0 (.lt 2 (.lt 6 (.lt 8 (.lt 1 (.lt 7 (.lt 3 (.lt 9 (.lt 4 (.lt 10 (.lt 5 (.lt 11 (.lt 12 (.lt 13 (.split 82 (.lt 14 (.lt 16 (.lt 20 (.lt 22 (.lt 15 (.lt 21 (.lt 17 (.lt 23 (.lt 18 (.lt 24 (.lt 19 (.lt 25 (.lt 26 (.lt 27 .nil)))))))))))))) 158446653621971758153690251264 [(96, .leaf (.bool))] (.lt 28 (.split 97 (.lt 29 (.lt 31 (.lt 35 (.lt 37 (.lt 30 (.lt 36 (.lt 32 (.lt 38 (.lt 33 (.lt 39 (.lt 34 (.lt 40 (.op 41 [] (.lt 42 (.lt 43 .nil))))))))))))))) 10384276804419598199710618482638848 [(112, .leaf (.bool))] .nil)))))))))))))))))) (.cond (.seq (.reg (.op 0 [] .nil)) .leaf) .leaf))) (.reg (.op 0 [] (.op 1 [] (.op 2 [] .nil))))))))) (.seq (.reg (.op 0 [] .nil)) .leaf)))
def repriselaw21_plans.F (a0_0 : Int) (a0_1 : Int) (a0_2 : Int) (a0_3 : Option Addr) (a0_3l : Nat) (a0_3c : Nat) (a0_4 : Int) (a0_5 : Int) (a0_6 : Int) (a0_7 : Int) (a1_0 : Int) (a1_1 : Int) (a1_2 : Int) (a1_3 : Option Addr) (a1_3l : Nat) (a1_3c : Nat) (a1_4 : Int) (a1_5 : Int) (a1_6 : Int) (a1_7 : Int) (w : World) (K : Value → World → Prop) (X : List PanicEntry → World → Prop) : Prop :=
 al w (.cells (#[.int .i64 a0_0, .int .i64 a0_1, .int .i64 a0_2, .slice a0_3 a0_3l a0_3c, .int .i64 a0_4, .int .i64 a0_5, .int .i64 a0_6, .int .i64 a0_7]) 24) fun k1 w1 =>
 al w1 (.cells (#[.int .i64 a1_0, .int .i64 a1_1, .int .i64 a1_2, .slice a1_3 a1_3l a1_3c, .int .i64 a1_4, .int .i64 a1_5, .int .i64 a1_6, .int .i64 a1_7]) 24) fun k2 w2 =>
 ld w2 (⟨k1, 0, none⟩ : Addr) fun v1 =>
 asI .i64 v1 fun n1 =>
 ld w2 (⟨k2, 0, none⟩ : Addr) fun v2 =>
 asI .i64 v2 fun n2 =>
 ∀ K1 : List Value → World → Prop, (∀ b1 w3, (∀ _ : Env,
 ∀ K2 : List Value → World → Prop, (∀ b2 w4, (∀ _ : Env,
 ∀ K3 : List Value → World → Prop, (∀ b3 w5, (∀ _ : Env,
 ∀ K4 : List Value → World → Prop, (∀ b4 w6, (∀ _ : Env,
 ∀ K5 : List Value → World → Prop, (∀ b5 w7, (∀ _ : Env,
 ∀ K6 : List Value → World → Prop, (∀ b6 w8, (∀ _ : Env,
 ∀ K7 : List Value → World → Prop, (∀ b7 w9, (∀ _ : Env,
 cnd b7 (
 K (.bool false) w9) (
 ∀ L1 : List Value → World → Prop, (∀ n3 w10, (∀ _ : Env,
 ld w10 (⟨k1, 3, none⟩ : Addr) fun v3 =>
 asL v3 fun q1 q1l q1c =>
 cnd (iLt n3 (lenN q1l)) (
 ∀ w12, w12 = World.drew w10 →
 ld w12 (⟨k1, 3, none⟩ : Addr) fun v5 =>
 asL v5 fun q2 q2l q2c =>
 ld w12 (⟨k2, 3, none⟩ : Addr) fun v6 =>
 asL v6 fun q3 q3l q3c =>
 inB n3 q2l ∧ nn q2 fun d2 =>
 ∀ d1, d1 = Addr.add d2 (scale (Int.toNat n3) 3) →
 inB n3 q3l ∧ nn q3 fun d4 =>
 ∀ d3, d3 = Addr.add d4 (scale (Int.toNat n3) 3) →
 ld w12 d1 fun v7 =>
 asI .i64 v7 fun n4 =>
 ld w12 d3 fun v8 =>
 asI .i64 v8 fun n5 =>
 ∀ K8 : List Value → World → Prop, (∀ b8 w13, (∀ _ : Env,
 ∀ K9 : List Value → World → Prop, (∀ b9 w14, (∀ _ : Env,
 cnd b9 (
 K (.bool false) w14) (
 L1 [.int .i64 (iAdd .i64 n3 1)] w14)) → K9 [.bool b9] w14) →
 cnd b8 (
 K9 [.bool true] w13) (
 ld w13 (⟨k1, 3, none⟩ : Addr) fun v9 =>
 asL v9 fun q4 q4l q4c =>
 ld w13 (⟨k2, 3, none⟩ : Addr) fun v10 =>
 asL v10 fun q5 q5l q5c =>
 inB n3 q4l ∧ nn q4 fun d6 =>
 ∀ d5, d5 = Addr.add d6 (scale (Int.toNat n3) 3) →
 inB n3 q5l ∧ nn q5 fun d8 =>
 ∀ d7, d7 = Addr.add d8 (scale (Int.toNat n3) 3) →
 ld w13 (Addr.add d5 2) fun v11 =>
 asF .f64 v11 fun x1 =>
 ld w13 (Addr.add d7 2) fun v12 =>
 asF .f64 v12 fun x2 =>
 call P 31 [.float .f64 x1, .float .f64 x2] w13 (fun v13 w15 =>
 asB v13 fun b10 =>
 K9 [.bool (!b10)] w15) X)) → K8 [.bool b8] w13) →
 cnd (iNe n4 n5) (
 K8 [.bool true] w12) (
 ld w12 (⟨k1, 3, none⟩ : Addr) fun v14 =>
 asL v14 fun q6 q6l q6c =>
 ld w12 (⟨k2, 3, none⟩ : Addr) fun v15 =>
 asL v15 fun q7 q7l q7c =>
 inB n3 q6l ∧ nn q6 fun d10 =>
 ∀ d9, d9 = Addr.add d10 (scale (Int.toNat n3) 3) →
 inB n3 q7l ∧ nn q7 fun d12 =>
 ∀ d11, d11 = Addr.add d12 (scale (Int.toNat n3) 3) →
 ld w12 (Addr.add d9 1) fun v16 =>
 asI .i64 v16 fun n6 =>
 ld w12 (Addr.add d11 1) fun v17 =>
 asI .i64 v17 fun n7 =>
 K8 [.bool (iNe n6 n7)] w12)) (
 K (.bool true) w10)) → L1 [.int .i64 n3] w10) → L1 [.int .i64 0] w9)) → K7 [.bool b7] w9) →
 cnd b6 (
 K7 [.bool true] w8) (
 ld w8 (⟨k1, 3, none⟩ : Addr) fun v18 =>
 asL v18 fun q8 q8l q8c =>
 ld w8 (⟨k2, 3, none⟩ : Addr) fun v20 =>
 asL v20 fun q9 q9l q9c =>
 K7 [.bool (iNe (lenN q8l) (lenN q9l))] w8)) → K6 [.bool b6] w8) →
 cnd b5 (
 K6 [.bool true] w7) (
 ld w7 (⟨k1, 7, none⟩ : Addr) fun v22 =>
 asI .i64 v22 fun n8 =>
 ld w7 (⟨k2, 7, none⟩ : Addr) fun v23 =>
 asI .i64 v23 fun n9 =>
 K6 [.bool (iNe n8 n9)] w7)) → K5 [.bool b5] w7) →
 cnd b4 (
 K5 [.bool true] w6) (
 ld w6 (⟨k1, 6, none⟩ : Addr) fun v24 =>
 asI .i64 v24 fun n10 =>
 ld w6 (⟨k2, 6, none⟩ : Addr) fun v25 =>
 asI .i64 v25 fun n11 =>
 K5 [.bool (iNe n10 n11)] w6)) → K4 [.bool b4] w6) →
 cnd b3 (
 K4 [.bool true] w5) (
 ld w5 (⟨k1, 5, none⟩ : Addr) fun v26 =>
 asI .i64 v26 fun n12 =>
 ld w5 (⟨k2, 5, none⟩ : Addr) fun v27 =>
 asI .i64 v27 fun n13 =>
 K4 [.bool (iNe n12 n13)] w5)) → K3 [.bool b3] w5) →
 cnd b2 (
 K3 [.bool true] w4) (
 ld w4 (⟨k1, 4, none⟩ : Addr) fun v28 =>
 asI .i64 v28 fun n14 =>
 ld w4 (⟨k2, 4, none⟩ : Addr) fun v29 =>
 asI .i64 v29 fun n15 =>
 K3 [.bool (iNe n14 n15)] w4)) → K2 [.bool b2] w4) →
 cnd b1 (
 K2 [.bool true] w3) (
 ld w3 (⟨k1, 2, none⟩ : Addr) fun v30 =>
 asI .i64 v30 fun n16 =>
 ld w3 (⟨k2, 2, none⟩ : Addr) fun v31 =>
 asI .i64 v31 fun n17 =>
 K2 [.bool (iNe n16 n17)] w3)) → K1 [.bool b1] w3) →
 cnd (iNe n1 n2) (
 K1 [.bool true] w2) (
 ld w2 (⟨k1, 1, none⟩ : Addr) fun v32 =>
 asI .i64 v32 fun n18 =>
 ld w2 (⟨k2, 1, none⟩ : Addr) fun v33 =>
 asI .i64 v33 fun n19 =>
 K1 [.bool (iNe n18 n19)] w2)
theorem repriselaw21_plans.ok : annOk Tryz.f13 repriselaw21_plans.ann (Tryz.f13.body.getD .skip) 2 = true := by kernel_rfl
theorem repriselaw21_plans.eq {a0_0 : Int} {a0_1 : Int} {a0_2 : Int} {a0_3 : Option Addr} {a0_3l : Nat} {a0_3c : Nat} {a0_4 : Int} {a0_5 : Int} {a0_6 : Int} {a0_7 : Int} {a1_0 : Int} {a1_1 : Int} {a1_2 : Int} {a1_3 : Option Addr} {a1_3l : Nat} {a1_3c : Nat} {a1_4 : Int} {a1_5 : Int} {a1_6 : Int} {a1_7 : Int} {w : World} {K : Value → World → Prop} {X : List PanicEntry → World → Prop} : repriselaw21_plans.F a0_0 a0_1 a0_2 a0_3 a0_3l a0_3c a0_4 a0_5 a0_6 a0_7 a1_0 a1_1 a1_2 a1_3 a1_3l a1_3c a1_4 a1_5 a1_6 a1_7 w K X = vc P repriselaw21_plans.ann (Tryz.f13.body.getD .skip) (retQ P Tryz.f13 K X) (argE [.agg #[.int .i64 a0_0, .int .i64 a0_1, .int .i64 a0_2, .slice a0_3 a0_3l a0_3c, .int .i64 a0_4, .int .i64 a0_5, .int .i64 a0_6, .int .i64 a0_7], .agg #[.int .i64 a1_0, .int .i64 a1_1, .int .i64 a1_2, .slice a1_3 a1_3l a1_3c, .int .i64 a1_4, .int .i64 a1_5, .int .i64 a1_6, .int .i64 a1_7]]) w := by kernel_rfl
theorem repriselaw21_plans.call {a0_0 : Int} {a0_1 : Int} {a0_2 : Int} {a0_3 : Option Addr} {a0_3l : Nat} {a0_3c : Nat} {a0_4 : Int} {a0_5 : Int} {a0_6 : Int} {a0_7 : Int} {a1_0 : Int} {a1_1 : Int} {a1_2 : Int} {a1_3 : Option Addr} {a1_3l : Nat} {a1_3c : Nat} {a1_4 : Int} {a1_5 : Int} {a1_6 : Int} {a1_7 : Int} {w : World} {K : Value → World → Prop} {X : List PanicEntry → World → Prop} (h : repriselaw21_plans.F a0_0 a0_1 a0_2 a0_3 a0_3l a0_3c a0_4 a0_5 a0_6 a0_7 a1_0 a1_1 a1_2 a1_3 a1_3l a1_3c a1_4 a1_5 a1_6 a1_7 w K X) : call P 13 [.agg #[.int .i64 a0_0, .int .i64 a0_1, .int .i64 a0_2, .slice a0_3 a0_3l a0_3c, .int .i64 a0_4, .int .i64 a0_5, .int .i64 a0_6, .int .i64 a0_7], .agg #[.int .i64 a1_0, .int .i64 a1_1, .int .i64 a1_2, .slice a1_3 a1_3l a1_3c, .int .i64 a1_4, .int .i64 a1_5, .int .i64 a1_6, .int .i64 a1_7]] w K X :=
  call_of good Tryz.func13 (c := (Tryz.f13.body.getD .skip)) (by kernel_rfl) repriselaw21_plans.ann repriselaw21_plans.ok (Eq.mp repriselaw21_plans.eq h)

/-- reprise/repriselaw21.same -/
def repriselaw21_same.ann : Ann := .seq (.reg (.op 0 [] .nil)) (.seq (.seq (.reg (.op 0 [] (.op 1 [] (.op 2 [] (.op 3 [] (.op 4 [] .nil)))))) (.cond (.seq (.reg (.op 0 [] .nil)) .leaf) .leaf)) (.seq (.seq (.reg (.op 0 [] .nil)) (.blk (.loop 36893488147419095280 [(5, .leaf (.int .i64))] (.seq (.seq (.reg (.op 0 [] (.op 1 [] (.op 2 [] (.op 3 [] .nil))))) (.cond .leaf .leaf)) (.seq (.blk (.seq (.reg (.op 0 [] (.op 1 [] (.op 2 [] (.op 3 [] (.op 4 [] (.op 5 [] .nil))))))) (.seq (.reg (.op 0 [] (.op 1 [] (.op 2 [] (.op 3 [] (.op 4 [] (.op 5 [] .nil))))))) (.seq (.reg (.op 0 [] (.op 1 [] (.op 2 [] (.op 3 [] (.op 4 [] (.op 5 [] (.split 32 (.op 6 [] (.op 7 [] (.op 8 [] (.op 9 [] (.op 10 [] (.op 11 [] .nil)))))) 541165879296 [(38, .leaf (.bool))] (.op 12 [] (.split 39 (.op 13 [] (.op 14 [] (.op 15 [] (.op 16 [] (.op 17 [] (.op 18 [] .nil)))))) 69269232549888 [(45, .leaf (.bool))] (.op 19 [] (.split 46 (.op 20 [] (.op 21 [] (.op 22 [] (.op 23 [] (.op 24 [] (.op 25 [] (.op 26 [] (.op 27 [] .nil)))))))) 35888059530608640 [(54, .leaf (.bool))] (.op 28 [] (.split 55 (.op 29 [] (.op 30 [] (.op 31 [] (.op 32 [] (.op 33 [] (.op 34 [] (.op 35 [] (.op 36 [] (.op 37 [] .nil))))))))) 36821430553381175296 [(64, .leaf (.bool))] .nil)))))))))))))) (.cond (.seq (.reg (.op 0 [] .nil)) .leaf) .leaf))))) (.reg (.op 0 [] (.op 1 [] (.op 2 [] .nil))))))))) (.seq (.reg (.op 0 [] .nil)) .leaf)))
def repriselaw21_same.F (a0 : Option Addr) (a0l : Nat) (a0c : Nat) (a1 : Option Addr) (a1l : Nat) (a1c : Nat) (w : World) (K : Value → World → Prop) (X : List PanicEntry → World → Prop) : Prop :=
 cnd (iNe (lenN a0l) (lenN a1l)) (
 K (.bool false) w) (
 ∀ L1 : List Value → World → Prop, (∀ n1 w3, (∀ _ : Env,
 cnd (iLt n1 (lenN a0l)) (
 inB n1 a0l ∧ nn a0 fun d2 =>
 ∀ d1, d1 = Addr.add d2 (scale (Int.toNat n1) 5) →
 ld w3 d1 fun v4 =>
 asI .i64 v4 fun n2 =>
 ld w3 (Addr.add d1 1) fun v5 =>
 asI .i64 v5 fun n3 =>
 ld w3 (Addr.add d1 2) fun v6 =>
 asI .i64 v6 fun n4 =>
 ld w3 (Addr.add d1 3) fun v7 =>
 asI .u64 v7 fun n5 =>
 ld w3 (Addr.add d1 4) fun v8 =>
 asF .f64 v8 fun x1 =>
 al w3 (.cells (#[.int .i64 0, .int .i64 0, .int .i64 0, .int .u64 0, .float .f64 0]) 46) fun k1 w5 =>
 st w5 (⟨k1, 0, none⟩ : Addr) [.int .i64 n2, .int .i64 n3, .int .i64 n4, .int .u64 n5, .float .f64 x1] fun w6 =>
 inB n1 a1l ∧ nn a1 fun d4 =>
 ∀ d3, d3 = Addr.add d4 (scale (Int.toNat n1) 5) →
 ld w6 d3 fun v9 =>
 asI .i64 v9 fun n6 =>
 ld w6 (Addr.add d3 1) fun v10 =>
 asI .i64 v10 fun n7 =>
 ld w6 (Addr.add d3 2) fun v11 =>
 asI .i64 v11 fun n8 =>
 ld w6 (Addr.add d3 3) fun v12 =>
 asI .u64 v12 fun n9 =>
 ld w6 (Addr.add d3 4) fun v13 =>
 asF .f64 v13 fun x2 =>
 al w6 (.cells (#[.int .i64 0, .int .i64 0, .int .i64 0, .int .u64 0, .float .f64 0]) 46) fun k2 w7 =>
 st w7 (⟨k2, 0, none⟩ : Addr) [.int .i64 n6, .int .i64 n7, .int .i64 n8, .int .u64 n9, .float .f64 x2] fun w8 =>
 ld w8 (⟨k1, 0, none⟩ : Addr) fun v14 =>
 asI .i64 v14 fun n10 =>
 ld w8 (⟨k2, 0, none⟩ : Addr) fun v15 =>
 asI .i64 v15 fun n11 =>
 ∀ K1 : List Value → World → Prop, (∀ b1 w9, (∀ _ : Env,
 ∀ K2 : List Value → World → Prop, (∀ b2 w10, (∀ _ : Env,
 ∀ K3 : List Value → World → Prop, (∀ b3 w11, (∀ _ : Env,
 ∀ K4 : List Value → World → Prop, (∀ b4 w12, (∀ _ : Env,
 cnd b4 (
 K (.bool false) w12) (
 L1 [.int .i64 (iAdd .i64 n1 1)] w12)) → K4 [.bool b4] w12) →
 cnd b3 (
 K4 [.bool true] w11) (
 ld w11 (⟨k1, 4, none⟩ : Addr) fun v16 =>
 asF .f64 v16 fun x3 =>
 ld w11 (⟨k2, 4, none⟩ : Addr) fun v17 =>
 asF .f64 v17 fun x4 =>
 call P 31 [.float .f64 x3, .float .f64 x4] w11 (fun v18 w13 =>
 asB v18 fun b5 =>
 K4 [.bool (!b5)] w13) X)) → K3 [.bool b3] w11) →
 cnd b2 (
 K3 [.bool true] w10) (
 ld w10 (⟨k1, 3, none⟩ : Addr) fun v19 =>
 asI .u64 v19 fun n12 =>
 ld w10 (⟨k2, 3, none⟩ : Addr) fun v20 =>
 asI .u64 v20 fun n13 =>
 K3 [.bool (iNe n12 n13)] w10)) → K2 [.bool b2] w10) →
 cnd b1 (
 K2 [.bool true] w9) (
 ld w9 (⟨k1, 2, none⟩ : Addr) fun v21 =>
 asI .i64 v21 fun n14 =>
 ld w9 (⟨k2, 2, none⟩ : Addr) fun v22 =>
 asI .i64 v22 fun n15 =>
 K2 [.bool (iNe n14 n15)] w9)) → K1 [.bool b1] w9) →
 cnd (iNe n10 n11) (
 K1 [.bool true] w8) (
 ld w8 (⟨k1, 1, none⟩ : Addr) fun v23 =>
 asI .i64 v23 fun n16 =>
 ld w8 (⟨k2, 1, none⟩ : Addr) fun v24 =>
 asI .i64 v24 fun n17 =>
 K1 [.bool (iNe n16 n17)] w8)) (
 K (.bool true) w3)) → L1 [.int .i64 n1] w3) → L1 [.int .i64 0] w)
theorem repriselaw21_same.ok : annOk Tryz.f14 repriselaw21_same.ann (Tryz.f14.body.getD .skip) 2 = true := by kernel_rfl
theorem repriselaw21_same.eq {a0 : Option Addr} {a0l : Nat} {a0c : Nat} {a1 : Option Addr} {a1l : Nat} {a1c : Nat} {w : World} {K : Value → World → Prop} {X : List PanicEntry → World → Prop} : repriselaw21_same.F a0 a0l a0c a1 a1l a1c w K X = vc P repriselaw21_same.ann (Tryz.f14.body.getD .skip) (retQ P Tryz.f14 K X) (argE [.slice a0 a0l a0c, .slice a1 a1l a1c]) w := by kernel_rfl
theorem repriselaw21_same.call {a0 : Option Addr} {a0l : Nat} {a0c : Nat} {a1 : Option Addr} {a1l : Nat} {a1c : Nat} {w : World} {K : Value → World → Prop} {X : List PanicEntry → World → Prop} (h : repriselaw21_same.F a0 a0l a0c a1 a1l a1c w K X) : call P 14 [.slice a0 a0l a0c, .slice a1 a1l a1c] w K X :=
  call_of good Tryz.func14 (c := (Tryz.f14.body.getD .skip)) (by kernel_rfl) repriselaw21_same.ann repriselaw21_same.ok (Eq.mp repriselaw21_same.eq h)

/-- reprise/repriselaw21.bare -/
def repriselaw21_bare.ann : Ann := .seq (.reg (.op 0 [] .nil)) (.seq (.reg (.op 0 [] .nil)) (.seq (.reg (.op 0 [] .nil)) (.seq (.seq (.reg (.op 0 [] .nil)) (.blk (.loop 4398046511096 [(3, .leaf (.slice)), (4, .leaf (.int .i64)), (5, .leaf (.int .i64))] (.seq (.seq (.reg (.op 0 [] (.op 1 [] (.op 2 [] (.op 3 [] .nil))))) (.cond .leaf .leaf)) (.seq (.blk (.seq (.seq (.reg (.op 0 [] (.op 1 [] (.op 2 [] (.op 3 [] (.op 4 [] (.split 16 (.op 5 [] (.op 6 [] (.op 7 [] (.op 8 [] (.op 9 [] .nil))))) 4063232 [(21, .leaf (.bool))] .nil))))))) (.cond .leaf .leaf)) (.seq (.seq (.reg (.op 0 [] (.op 1 [] (.op 2 [] (.op 3 [] (.split 25 (.op 4 [] (.op 5 [] (.op 6 [] (.op 7 [] (.op 8 [] .nil))))) 2080374784 [(30, .leaf (.bool))] .nil)))))) (.cond (.seq (.reg (.op 0 [] (.op 1 [] (.op 2 [] (.op 3 [] (.op 4 [] (.op 5 [] (.op 6 [] .nil)))))))) (.reg (.op 0 [] (.op 1 [] (.op 2 [] (.op 3 [] .nil)))))) .leaf)) (.reg (.op 0 [] (.op 1 [] (.op 2 [] .nil))))))) (.reg (.op 0 [] (.op 1 [] (.op 2 [] .nil))))))))) (.seq (.reg (.op 0 [] (.op 1 [] (.op 2 [] .nil)))) .leaf))))
def repriselaw21_bare.F (a0 : ByteArray) (w : World) (K : Value → World → Prop) (X : List PanicEntry → World → Prop) : Prop :=
 ∀ L1 : List Value → World → Prop, (∀ q1 q1l q1c n1 n2 w1, (∀ _ : Env,
 cnd (iLe n2 (lenN (ByteArray.size a0))) (
 ∀ K1 : List Value → World → Prop, (∀ b1 w4, (∀ _ : Env,
 cnd b1 (
 L1 [.slice q1 q1l q1c, .int .i64 n1, .int .i64 (iAdd .i64 n2 1)] w4) (
 ∀ K2 : List Value → World → Prop, (∀ b2 w5, (∀ _ : Env,
 cnd b2 (
 inC n2 (ByteArray.size a0) ∧
 inC n1 (Int.toNat n2) ∧
 runV P (Builtin.append_ #[39, 9] 39 #[.slice q1 q1l q1c, .string (cutS a0 (Int.toNat n1) (Int.toNat n2))]) w5 (fun v4 w7 =>
 asL v4 fun q2 q2l q2c =>
 al w7 (.cells (#[.int .u8 10]) 5) fun k1 w8 =>
 runV P (Builtin.append_ #[39, 39] 39 #[.slice q2 q2l q2c, .slice (some ⟨k1, 0, none⟩) 1 1]) w8 (fun v6 w10 =>
 asL v6 fun q3 q3l q3c =>
 L1 [.slice q3 q3l q3c, .int .i64 (iAdd .i64 n2 1), .int .i64 (iAdd .i64 n2 1)] w10) X) X) (
 L1 [.slice q1 q1l q1c, .int .i64 (iAdd .i64 n2 1), .int .i64 (iAdd .i64 n2 1)] w5)) → K2 [.bool b2] w5) →
 cnd (iGt n2 n1) (
 inB n1 (ByteArray.size a0) ∧
 K2 [.bool (iNe (bt a0 n1) 35)] w4) (
 K2 [.bool false] w4))) → K1 [.bool b1] w4) →
 cnd (iLt n2 (lenN (ByteArray.size a0))) (
 inB n2 (ByteArray.size a0) ∧
 K1 [.bool (iNe (bt a0 n2) 10)] w1) (
 K1 [.bool false] w1)) (
 runV P (convert 39 9 (.slice q1 q1l q1c)) w1 (fun v7 w11 =>
 asS v7 fun s1 =>
 K (.string s1) w11) X)) → L1 [.slice q1 q1l q1c, .int .i64 n1, .int .i64 n2] w1) → L1 [.slice none 0 0, .int .i64 0, .int .i64 0] w
theorem repriselaw21_bare.ok : annOk Tryz.f15 repriselaw21_bare.ann (Tryz.f15.body.getD .skip) 1 = true := by kernel_rfl
theorem repriselaw21_bare.eq {a0 : ByteArray} {w : World} {K : Value → World → Prop} {X : List PanicEntry → World → Prop} : repriselaw21_bare.F a0 w K X = vc P repriselaw21_bare.ann (Tryz.f15.body.getD .skip) (retQ P Tryz.f15 K X) (argE [.string a0]) w := by kernel_rfl
theorem repriselaw21_bare.call {a0 : ByteArray} {w : World} {K : Value → World → Prop} {X : List PanicEntry → World → Prop} (h : repriselaw21_bare.F a0 w K X) : call P 15 [.string a0] w K X :=
  call_of good Tryz.func15 (c := (Tryz.f15.body.getD .skip)) (by kernel_rfl) repriselaw21_bare.ann repriselaw21_bare.ok (Eq.mp repriselaw21_bare.eq h)

/-- (*strings.Builder).WriteString -/
def strings_Builder_WriteString.ann : Ann := .seq (.reg (.op 0 [] (.op 1 [] .nil))) (.seq (.reg (.op 0 [] (.op 1 [] .nil))) (.seq (.reg (.op 0 [] (.op 1 [] (.op 2 [] (.op 3 [] (.op 4 [] (.op 5 [] (.op 6 [] (.op 7 [] (.op 8 [] (.op 9 [] .nil))))))))))) (.seq (.reg (.op 0 [] (.op 1 [] (.op 2 [] (.op 3 [] .nil))))) .leaf)))
def strings_Builder_WriteString.F (a0 : Option Addr) (a1 : ByteArray) (w : World) (K : Value → World → Prop) (X : List PanicEntry → World → Prop) : Prop :=
 call P 32 [.pointer a0] w (fun v1 w1 =>
 tuN 0 v1 (nn a0 fun d1 =>
 ld w1 (Addr.add d1 1) fun v2 =>
 asL v2 fun q1 q1l q1c =>
 runV P (Builtin.append_ #[39, 9] 39 #[.slice q1 q1l q1c, .string a1]) w1 (fun v4 w3 =>
 asL v4 fun q2 q2l q2c =>
 nn a0 fun d2 =>
 st w3 (Addr.add d2 1) [.slice q2 q2l q2c] fun w4 =>
 K (.tuple #[.int .i64 (lenN (ByteArray.size a1)), .nilIface]) w4) X)) X
theorem strings_Builder_WriteString.ok : annOk Tryz.f16 strings_Builder_WriteString.ann (Tryz.f16.body.getD .skip) 2 = true := by kernel_rfl
theorem strings_Builder_WriteString.eq {a0 : Option Addr} {a1 : ByteArray} {w : World} {K : Value → World → Prop} {X : List PanicEntry → World → Prop} : strings_Builder_WriteString.F a0 a1 w K X = vc P strings_Builder_WriteString.ann (Tryz.f16.body.getD .skip) (retQ P Tryz.f16 K X) (argE [.pointer a0, .string a1]) w := by kernel_rfl
theorem strings_Builder_WriteString.call {a0 : Option Addr} {a1 : ByteArray} {w : World} {K : Value → World → Prop} {X : List PanicEntry → World → Prop} (h : strings_Builder_WriteString.F a0 a1 w K X) : call P 16 [.pointer a0, .string a1] w K X :=
  call_of good Tryz.func16 (c := (Tryz.f16.body.getD .skip)) (by kernel_rfl) strings_Builder_WriteString.ann strings_Builder_WriteString.ok (Eq.mp strings_Builder_WriteString.eq h)

/-- (*strings.Builder).WriteByte -/
def strings_Builder_WriteByte.ann : Ann := .seq (.reg (.op 0 [] .nil)) (.seq (.reg (.op 0 [] (.op 1 [] .nil))) (.seq (.reg (.op 0 [] (.op 1 [] (.op 2 [] (.op 3 [] (.op 4 [] (.op 5 [] (.op 6 [] (.op 7 [] (.op 8 [] (.op 9 [] (.op 10 [] .nil)))))))))))) (.seq (.reg (.op 0 [] .nil)) .leaf)))
def strings_Builder_WriteByte.F (a0 : Option Addr) (a1 : Int) (w : World) (K : Value → World → Prop) (X : List PanicEntry → World → Prop) : Prop :=
 call P 32 [.pointer a0] w (fun v1 w1 =>
 tuN 0 v1 (nn a0 fun d1 =>
 ld w1 (Addr.add d1 1) fun v2 =>
 asL v2 fun q1 q1l q1c =>
 al w1 (.cells (#[.int .u8 a1]) 5) fun k1 w2 =>
 runV P (Builtin.append_ #[39, 39] 39 #[.slice q1 q1l q1c, .slice (some ⟨k1, 0, none⟩) 1 1]) w2 (fun v4 w4 =>
 asL v4 fun q2 q2l q2c =>
 nn a0 fun d2 =>
 st w4 (Addr.add d2 1) [.slice q2 q2l q2c] fun w5 =>
 K (.nilIface) w5) X)) X
theorem strings_Builder_WriteByte.ok : annOk Tryz.f18 strings_Builder_WriteByte.ann (Tryz.f18.body.getD .skip) 2 = true := by kernel_rfl
theorem strings_Builder_WriteByte.eq {a0 : Option Addr} {a1 : Int} {w : World} {K : Value → World → Prop} {X : List PanicEntry → World → Prop} : strings_Builder_WriteByte.F a0 a1 w K X = vc P strings_Builder_WriteByte.ann (Tryz.f18.body.getD .skip) (retQ P Tryz.f18 K X) (argE [.pointer a0, .int .u8 a1]) w := by kernel_rfl
theorem strings_Builder_WriteByte.call {a0 : Option Addr} {a1 : Int} {w : World} {K : Value → World → Prop} {X : List PanicEntry → World → Prop} (h : strings_Builder_WriteByte.F a0 a1 w K X) : call P 18 [.pointer a0, .int .u8 a1] w K X :=
  call_of good Tryz.func18 (c := (Tryz.f18.body.getD .skip)) (by kernel_rfl) strings_Builder_WriteByte.ann strings_Builder_WriteByte.ok (Eq.mp strings_Builder_WriteByte.eq h)

/-- (*strings.Builder).Len -/
def strings_Builder_Len.ann : Ann := .seq (.reg (.op 0 [] .nil)) (.seq (.reg (.op 0 [] (.op 1 [] (.op 2 [] (.op 3 [] (.op 4 [] (.op 5 [] .nil))))))) .leaf)
def strings_Builder_Len.F (a0 : Option Addr) (w : World) (K : Value → World → Prop) (X : List PanicEntry → World → Prop) : Prop :=
 nn a0 fun d1 =>
 ld w (Addr.add d1 1) fun v1 =>
 asL v1 fun q1 q1l q1c =>
 K (.int .i64 (lenN q1l)) w
theorem strings_Builder_Len.ok : annOk Tryz.f19 strings_Builder_Len.ann (Tryz.f19.body.getD .skip) 1 = true := by kernel_rfl
theorem strings_Builder_Len.eq {a0 : Option Addr} {w : World} {K : Value → World → Prop} {X : List PanicEntry → World → Prop} : strings_Builder_Len.F a0 w K X = vc P strings_Builder_Len.ann (Tryz.f19.body.getD .skip) (retQ P Tryz.f19 K X) (argE [.pointer a0]) w := by kernel_rfl
theorem strings_Builder_Len.call {a0 : Option Addr} {w : World} {K : Value → World → Prop} {X : List PanicEntry → World → Prop} (h : strings_Builder_Len.F a0 w K X) : call P 19 [.pointer a0] w K X :=
  call_of good Tryz.func19 (c := (Tryz.f19.body.getD .skip)) (by kernel_rfl) strings_Builder_Len.ann strings_Builder_Len.ok (Eq.mp strings_Builder_Len.eq h)

/-- reprise/script.hex -/
def script_hex.ann : Ann := .seq (.reg (.op 0 [] .nil)) (.seq (.reg (.op 0 [] (.op 1 [] (.op 2 [] (.op 3 [] .nil))))) (.seq (.reg (.op 0 [] (.op 1 [] (.op 2 [] (.op 3 [] (.op 4 [] (.op 5 [] (.op 6 [] .nil)))))))) .leaf))
def script_hex.F (a0 : Nat) (w : World) (K : Value → World → Prop) (X : List PanicEntry → World → Prop) : Prop :=
 callX P 36 [.float .f64 a0] w (fun v1 w1 =>
 asI .u64 v1 fun n1 =>
 call P 35 [.int .u64 n1, .int .i64 16] w1 (fun v2 w2 =>
 asS v2 fun s1 =>
 call P 37 [.string (bs [48]), .int .i64 (iSub .i64 16 (lenN (ByteArray.size s1)))] w2 (fun v4 w4 =>
 asS v4 fun s2 =>
 catOk s2 s1 ∧
 K (.string (cat s2 s1)) w4) X) X) X
theorem script_hex.ok : annOk Tryz.f21 script_hex.ann (Tryz.f21.body.getD .skip) 1 = true := by kernel_rfl
theorem script_hex.eq {a0 : Nat} {w : World} {K : Value → World → Prop} {X : List PanicEntry → World → Prop} : script_hex.F a0 w K X = vc P script_hex.ann (Tryz.f21.body.getD .skip) (retQ P Tryz.f21 K X) (argE [.float .f64 a0]) w := by kernel_rfl
theorem script_hex.call {a0 : Nat} {w : World} {K : Value → World → Prop} {X : List PanicEntry → World → Prop} (h : script_hex.F a0 w K X) : call P 21 [.float .f64 a0] w K X :=
  call_of good Tryz.func21 (c := (Tryz.f21.body.getD .skip)) (by kernel_rfl) script_hex.ann script_hex.ok (Eq.mp script_hex.eq h)

/-- reprise/script.write -/
def script_write.ann : Ann := .seq (.reg (.op 0 [] (.op 1 [] .nil))) (.seq (.seq (.reg (.op 0 [] (.op 1 [] (.op 2 [] (.op 3 [] (.split 11 (.op 4 [] (.op 5 [] (.op 6 [] (.op 7 [] .nil)))) 61440 [(15, .leaf (.bool))] .nil)))))) (.cond (.seq (.reg (.op 0 [] .nil)) .leaf) .leaf)) (.seqJ 983072 [(5, .leaf (.blk))] (.reg (.lt 1 (.lt 2 (.alt (.op 0 [2] (.alt (.op 3 [] (.op 4 [2] (.op 5 [] .nil))) (.op 4 [2] (.op 3 [] (.op 5 [] .nil))))) (.op 4 [2] (.op 0 [2] (.op 3 [] (.op 5 [] .nil)))))))) (.seq (.reg (.op 0 [] (.op 1 [] (.op 2 [] (.op 3 [] .nil))))) (.seq (.seq (.reg (.op 0 [] (.op 1 [] (.op 2 [] .nil)))) (.blk (.loop 590295810358571434112 [] (.seq (.reg (.op 0 [] (.op 1 [] .nil))) (.seq (.cond .leaf .leaf) (.blk (.seq (.reg (.op 0 [] (.op 1 [] .nil))) (.seq (.reg (.op 0 [] (.op 1 [] .nil))) (.seq (.reg (.op 0 [] .nil)) (.blk (.seq (.reg (.op 0 [] (.op 1 [] .nil))) (.cond (.seq (.reg (.op 0 [] (.op 1 [] (.op 2 [] (.op 3 [] (.op 4 [] .nil)))))) (.reg (.op 0 [] (.op 1 [] .nil)))) (.seq (.reg (.op 0 [] (.op 1 [] .nil))) (.cond (.seq (.reg (.op 0 [] (.op 1 [] (.op 2 [] (.op 3 [] (.op 4 [] .nil)))))) (.reg (.op 0 [] (.op 1 [] .nil)))) (.seq (.reg (.op 0 [] (.op 1 [] .nil))) (.cond (.seq (.reg (.op 0 [] (.op 1 [] (.op 2 [] (.op 3 [] (.op 4 [] (.op 5 [] .nil))))))) (.reg (.op 0 [] (.op 1 [] (.op 2 [] .nil))))) (.seq (.reg (.op 0 [] (.op 1 [] .nil))) (.cond (.seq (.reg (.op 0 [] (.op 1 [] (.op 2 [] (.op 3 [] (.op 4 [] (.op 5 [] .nil))))))) (.reg (.op 0 [] (.op 1 [] (.op 2 [] .nil))))) .leaf)))))))))))))))))) (.seq (.reg (.op 0 [] (.op 1 [] .nil))) (.seq (.seq (.reg (.op 0 [] (.op 1 [] (.op 2 [] (.op 3 [] (.split 74 (.op 4 [] (.op 5 [] (.op 6 [] (.op 7 [] .nil)))) 566683977944357425643520 [(78, .leaf (.bool))] (.op 8 [] (.split 79 (.op 9 [] (.op 10 [] (.op 11 [] (.op 12 [] (.op 13 [] .nil))))) 37476700408053504415891456 [(84, .leaf (.bool))] (.op 14 [] (.split 85 (.op 15 [] (.op 16 [] (.op 17 [] (.op 18 [] (.op 19 [] (.op 20 [] .nil)))))) 4874388904686184832415301632 [(91, .leaf (.bool))] .nil)))))))))) (.cond (.seq (.reg (.op 0 [] .nil)) .leaf) .leaf)) (.seq (.reg (.op 0 [] .nil)) .leaf)))))))
def script_write.F (a0 : Option Addr) (a1_0 : Int) (a1_1 : Int) (a1_2 : Int) (a1_3 : Int) (a1_4 : Nat) (w : World) (K : Value → World → Prop) (X : List PanicEntry → World → Prop) : Prop :=
 al w (.cells (#[.int .i64 a1_0, .int .i64 a1_1, .int .i64 a1_2, .int .u64 a1_3, .float .f64 a1_4]) 46) fun k1 w1 =>
 ld w1 (⟨k1, 0, none⟩ : Addr) fun v1 =>
 asI .i64 v1 fun n1 =>
 ∀ K1 : List Value → World → Prop, (∀ b1 w2, (∀ _ : Env,
 cnd b1 (
 K (.int .i64 200) w2) (
 ∀ K2 : List Value → World → Prop, (∀ k2 w3, (∀ _ : Env,
 inB 0 2 ∧
 ∀ d1, d1 = Addr.add (⟨k2, 0, none⟩ : Addr) (scale (Int.toNat 0) 1) →
 ld w3 d1 fun v2 =>
 asS v2 fun s1 =>
 call P 16 [.pointer a0, .string s1] w3 (fun v3 w4 =>
 tuN 2 v3 (fun v4 v5 => show Prop from
 asI .i64 v4 fun n2 =>
 inB 1 2 ∧
 ∀ d2, d2 = Addr.add (⟨k2, 0, none⟩ : Addr) (scale (Int.toNat 1) 1) →
 ld w4 d2 fun v6 =>
 asS v6 fun s2 =>
 runV P (Instr.range 9 (.string s2)) w4 (fun v7 w5 =>
 ∀ L1 : List Value → World → Prop, (∀ w6, (∀ _ : Env,
 runV P (Instr.next (v7) true 0) w6 (fun v8 w7 =>
 nxt v8 (fun v9 v10 => show Prop from
 asI .i64 v9 fun n3 =>
 asI .i32 v10 fun n4 =>
 call P 18 [.pointer a0, .int .u8 32] w7 (fun v11 w8 =>
 cnd (iEq n4 110) (
 ld w8 (⟨k1, 1, none⟩ : Addr) fun v12 =>
 asI .i64 v12 fun n5 =>
 call P 17 [.int .i64 n5] w8 (fun v13 w9 =>
 asS v13 fun s3 =>
 call P 16 [.pointer a0, .string s3] w9 (fun v14 w10 =>
 tuN 2 v14 (fun v15 v16 => show Prop from
 asI .i64 v15 fun n6 =>
 st w10 (⟨k1, 1, none⟩ : Addr) [.int .i64 0] fun w11 =>
 L1 [] w11)) X) X) (
 cnd (iEq n4 107) (
 ld w8 (⟨k1, 2, none⟩ : Addr) fun v17 =>
 asI .i64 v17 fun n7 =>
 call P 17 [.int .i64 n7] w8 (fun v18 w12 =>
 asS v18 fun s4 =>
 call P 16 [.pointer a0, .string s4] w12 (fun v19 w13 =>
 tuN 2 v19 (fun v20 v21 => show Prop from
 asI .i64 v20 fun n8 =>
 st w13 (⟨k1, 2, none⟩ : Addr) [.int .i64 0] fun w14 =>
 L1 [] w14)) X) X) (
 cnd (iEq n4 117) (
 ld w8 (⟨k1, 3, none⟩ : Addr) fun v22 =>
 asI .u64 v22 fun n9 =>
 call P 35 [.int .u64 n9, .int .i64 10] w8 (fun v23 w15 =>
 asS v23 fun s5 =>
 call P 16 [.pointer a0, .string s5] w15 (fun v24 w16 =>
 tuN 2 v24 (fun v25 v26 => show Prop from
 asI .i64 v25 fun n10 =>
 st w16 (⟨k1, 3, none⟩ : Addr) [.int .u64 0] fun w17 =>
 L1 [] w17)) X) X) (
 cnd (iEq n4 118) (
 ld w8 (⟨k1, 4, none⟩ : Addr) fun v27 =>
 asF .f64 v27 fun x1 =>
 call P 21 [.float .f64 x1] w8 (fun v28 w18 =>
 asS v28 fun s6 =>
 call P 16 [.pointer a0, .string s6] w18 (fun v29 w19 =>
 tuN 2 v29 (fun v30 v31 => show Prop from
 asI .i64 v30 fun n11 =>
 st w19 (⟨k1, 4, none⟩ : Addr) [.float .f64 0] fun w20 =>
 L1 [] w20)) X) X) (
 L1 [] w8))))) X) (
 call P 18 [.pointer a0, .int .u8 10] w7 (fun v32 w21 =>
 ld w21 (⟨k1, 1, none⟩ : Addr) fun v33 =>
 asI .i64 v33 fun n12 =>
 ∀ K3 : List Value → World → Prop, (∀ b2 w22, (∀ _ : Env,
 ∀ K4 : List Value → World → Prop, (∀ b3 w23, (∀ _ : Env,
 ∀ K5 : List Value → World → Prop, (∀ b4 w24, (∀ _ : Env,
 cnd b4 (
 K (.int .i64 1) w24) (
 K (.int .i64 0) w24)) → K5 [.bool b4] w24) →
 cnd b3 (
 K5 [.bool true] w23) (
 ld w23 (⟨k1, 4, none⟩ : Addr) fun v34 =>
 asF .f64 v34 fun x2 =>
 callX P 36 [.float .f64 x2] w23 (fun v35 w25 =>
 asI .u64 v35 fun n13 =>
 K5 [.bool (iNe n13 0)] w25) X)) → K4 [.bool b3] w23) →
 cnd b2 (
 K4 [.bool true] w22) (
 ld w22 (⟨k1, 3, none⟩ : Addr) fun v36 =>
 asI .u64 v36 fun n14 =>
 K4 [.bool (iNe n14 0)] w22)) → K3 [.bool b2] w22) →
 cnd (iNe n12 0) (
 K3 [.bool true] w21) (
 ld w21 (⟨k1, 2, none⟩ : Addr) fun v37 =>
 asI .i64 v37 fun n15 =>
 K3 [.bool (iNe n15 0)] w21)) X)) X) → L1 [] w6) → L1 [] w5) X)) X) → K2 [.pointer (some ⟨k2, 0, none⟩)] w3) →
 ∀ w26, w26 = World.drew w2 →
 ld w26 (⟨k1, 0, none⟩ : Addr) fun v38 =>
 asI .i64 v38 fun n16 =>
 (call P 38 [] w26 (fun v39 w27 =>
 agN 24 v39 (fun v40 v41 v42 v43 v44 v45 v46 v47 v48 v49 v50 v51 v52 v53 v54 v55 v56 v57 v58 v59 v60 v61 v62 v63 => show Prop from
 asS v40 fun s7 =>
 asS v41 fun s8 =>
 asS v42 fun s9 =>
 asS v43 fun s10 =>
 asS v44 fun s11 =>
 asS v45 fun s12 =>
 asS v46 fun s13 =>
 asS v47 fun s14 =>
 asS v48 fun s15 =>
 asS v49 fun s16 =>
 asS v50 fun s17 =>
 asS v51 fun s18 =>
 asS v52 fun s19 =>
 asS v53 fun s20 =>
 asS v54 fun s21 =>
 asS v55 fun s22 =>
 asS v56 fun s23 =>
 asS v57 fun s24 =>
 asS v58 fun s25 =>
 asS v59 fun s26 =>
 asS v60 fun s27 =>
 asS v61 fun s28 =>
 asS v62 fun s29 =>
 asS v63 fun s30 =>
 World.cell? w27 (⟨k1, 0, none⟩ : Addr) = some (.int .i64 n16) ∧
 (inB n16 12 ∧
 agN 2 (.agg (Array.extract (#[.string s7, .string s8, .string s9, .string s10, .string s11, .string s12, .string s13, .string s14, .string s15, .string s16, .string s17, .string s18, .string s19, .string s20, .string s21, .string s22, .string s23, .string s24, .string s25, .string s26, .string s27, .string s28, .string s29, .string s30] : Array Value) (scale (Int.toNat n16) 2) (scale (Int.toNat n16) 2 + 2))) (fun v64 v65 => show Prop from
 asS v64 fun s31 =>
 asS v65 fun s32 =>
 al w27 (.cells (#[.string (bs []), .string (bs [])]) 82) fun k3 w28 =>
 World.cell? w28 (⟨k1, 0, none⟩ : Addr) = some (.int .i64 n16) ∧
 st w28 (⟨k3, 0, none⟩ : Addr) [.string s31, .string s32] fun w29 =>
 K2 [.pointer (some ⟨k3, 0, none⟩)] w29)) ∧
 ((al w27 (.cells (#[.string (bs []), .string (bs [])]) 82) fun k4 w30 =>
 World.cell? w30 (⟨k1, 0, none⟩ : Addr) = some (.int .i64 n16) ∧
 inB n16 12 ∧
 agN 2 (.agg (Array.extract (#[.string s7, .string s8, .string s9, .string s10, .string s11, .string s12, .string s13, .string s14, .string s15, .string s16, .string s17, .string s18, .string s19, .string s20, .string s21, .string s22, .string s23, .string s24, .string s25, .string s26, .string s27, .string s28, .string s29, .string s30] : Array Value) (scale (Int.toNat n16) 2) (scale (Int.toNat n16) 2 + 2))) (fun v66 v67 => show Prop from
 asS v66 fun s33 =>
 asS v67 fun s34 =>
 st w30 (⟨k4, 0, none⟩ : Addr) [.string s33, .string s34] fun w31 =>
 K2 [.pointer (some ⟨k4, 0, none⟩)] w31))))) X) ∧
 ((al w26 (.cells (#[.string (bs []), .string (bs [])]) 82) fun k5 w32 =>
 World.cell? w32 (⟨k1, 0, none⟩ : Addr) = some (.int .i64 n16) ∧
 call P 38 [] w32 (fun v68 w33 =>
 agN 24 v68 (fun v69 v70 v71 v72 v73 v74 v75 v76 v77 v78 v79 v80 v81 v82 v83 v84 v85 v86 v87 v88 v89 v90 v91 v92 => show Prop from
 asS v69 fun s35 =>
 asS v70 fun s36 =>
 asS v71 fun s37 =>
 asS v72 fun s38 =>
 asS v73 fun s39 =>
 asS v74 fun s40 =>
 asS v75 fun s41 =>
 asS v76 fun s42 =>
 asS v77 fun s43 =>
 asS v78 fun s44 =>
 asS v79 fun s45 =>
 asS v80 fun s46 =>
 asS v81 fun s47 =>
 asS v82 fun s48 =>
 asS v83 fun s49 =>
 asS v84 fun s50 =>
 asS v85 fun s51 =>
 asS v86 fun s52 =>
 asS v87 fun s53 =>
 asS v88 fun s54 =>
 asS v89 fun s55 =>
 asS v90 fun s56 =>
 asS v91 fun s57 =>
 asS v92 fun s58 =>
 World.cell? w33 (⟨k1, 0, none⟩ : Addr) = some (.int .i64 n16) ∧
 inB n16 12 ∧
 agN 2 (.agg (Array.extract (#[.string s35, .string s36, .string s37, .string s38, .string s39, .string s40, .string s41, .string s42, .string s43, .string s44, .string s45, .string s46, .string s47, .string s48, .string s49, .string s50, .string s51, .string s52, .string s53, .string s54, .string s55, .string s56, .string s57, .string s58] : Array Value) (scale (Int.toNat n16) 2) (scale (Int.toNat n16) 2 + 2))) (fun v93 v94 => show Prop from
 asS v93 fun s59 =>
 asS v94 fun s60 =>
 st w33 (⟨k5, 0, none⟩ : Addr) [.string s59, .string s60] fun w34 =>
 K2 [.pointer (some ⟨k5, 0, none⟩)] w34))) X)))) → K1 [.bool b1] w2) →
 cnd (iLt n1 1) (
 K1 [.bool true] w1) (
 ld w1 (⟨k1, 0, none⟩ : Addr) fun v95 =>
 asI .i64 v95 fun n17 =>
 K1 [.bool (iGt n17 11)] w1)
theorem script_write.ok : annOk Tryz.f22 script_write.ann (Tryz.f22.body.getD .skip) 2 = true := by kernel_rfl
theorem script_write.eq {a0 : Option Addr} {a1_0 : Int} {a1_1 : Int} {a1_2 : Int} {a1_3 : Int} {a1_4 : Nat} {w : World} {K : Value → World → Prop} {X : List PanicEntry → World → Prop} : script_write.F a0 a1_0 a1_1 a1_2 a1_3 a1_4 w K X = vc P script_write.ann (Tryz.f22.body.getD .skip) (retQ P Tryz.f22 K X) (argE [.pointer a0, .agg #[.int .i64 a1_0, .int .i64 a1_1, .int .i64 a1_2, .int .u64 a1_3, .float .f64 a1_4]]) w := by kernel_rfl
theorem script_write.call {a0 : Option Addr} {a1_0 : Int} {a1_1 : Int} {a1_2 : Int} {a1_3 : Int} {a1_4 : Nat} {w : World} {K : Value → World → Prop} {X : List PanicEntry → World → Prop} (h : script_write.F a0 a1_0 a1_1 a1_2 a1_3 a1_4 w K X) : call P 22 [.pointer a0, .agg #[.int .i64 a1_0, .int .i64 a1_1, .int .i64 a1_2, .int .u64 a1_3, .float .f64 a1_4]] w K X :=
  call_of good Tryz.func22 (c := (Tryz.f22.body.getD .skip)) (by kernel_rfl) script_write.ann script_write.ok (Eq.mp script_write.eq h)

/-- reprise/repriseref21.decimal -/
def repriseref21_decimal.ann : Ann := .seq (.reg (.op 0 [] .nil)) (.seq (.reg (.op 0 [] (.op 1 [] (.op 2 [] (.op 3 [] (.op 4 [] .nil)))))) .leaf)
def repriseref21_decimal.F (a0 : Int) (w : World) (K : Value → World → Prop) (X : List PanicEntry → World → Prop) : Prop :=
 call P 39 [.int .i64 2, .agg #[.bool true, .int .u64 (IntKind.wrap .u64 (a0))]] w (fun v1 w1 =>
 asS v1 fun s1 =>
 K (.string s1) w1) X
theorem repriseref21_decimal.ok : annOk Tryz.f24 repriseref21_decimal.ann (Tryz.f24.body.getD .skip) 1 = true := by kernel_rfl
theorem repriseref21_decimal.eq {a0 : Int} {w : World} {K : Value → World → Prop} {X : List PanicEntry → World → Prop} : repriseref21_decimal.F a0 w K X = vc P repriseref21_decimal.ann (Tryz.f24.body.getD .skip) (retQ P Tryz.f24 K X) (argE [.int .i64 a0]) w := by kernel_rfl
theorem repriseref21_decimal.call {a0 : Int} {w : World} {K : Value → World → Prop} {X : List PanicEntry → World → Prop} (h : repriseref21_decimal.F a0 w K X) : call P 24 [.int .i64 a0] w K X :=
  call_of good Tryz.func24 (c := (Tryz.f24.body.getD .skip)) (by kernel_rfl) repriseref21_decimal.ann repriseref21_decimal.ok (Eq.mp repriseref21_decimal.eq h)

/-- reprise/repriseref21.hex -/
def repriseref21_hex.ann : Ann := .seq (.reg (.op 0 [] .nil)) (.seq (.reg (.op 0 [] .nil)) (.seq (.reg (.op 0 [] (.op 1 [] (.op 2 [] .nil)))) (.seq (.reg (.op 0 [] .nil)) (.seq (.seq (.reg (.op 0 [] .nil)) (.blk (.loop 134216928 [(5, .leaf (.str)), (6, .leaf (.int .i64))] (.seq (.seq (.reg (.op 0 [] (.op 1 [] .nil))) (.cond .leaf .leaf)) (.seq (.blk (.seq (.reg (.op 0 [] (.op 1 [] (.op 2 [] (.op 3 [] (.op 4 [] (.op 5 [] (.op 6 [] .nil)))))))) (.reg (.op 0 [] (.op 1 [] (.op 2 [] (.op 3 [] (.op 4 [] (.op 5 [] (.op 6 [] (.op 7 [] .nil))))))))))) (.reg (.op 0 [] (.op 1 [] (.op 2 [] .nil))))))))) (.seq (.reg (.op 0 [] (.op 1 [] .nil))) .leaf)))))
def repriseref21_hex.F (a0 : Nat) (w : World) (K : Value → World → Prop) (X : List PanicEntry → World → Prop) : Prop :=
 call P 40 [.float .f64 a0] w (fun v1 w1 =>
 asI .u64 v1 fun n1 =>
 ∀ L1 : List Value → World → Prop, (∀ s1 n2 w2, (∀ _ : Env,
 cnd (iLt n2 16) (
 nng (IntKind.wrap .u64 (iMul .i64 4 n2)) ∧
 nz 16 ∧
 inC (iAdd .u64 (iRem (iShr .u64 n1 (IntKind.wrap .u64 (iMul .i64 4 n2))) 16) 1) (ByteArray.size (bs [48, 49, 50, 51, 52, 53, 54, 55, 56, 57, 97, 98, 99, 100, 101, 102])) ∧
 inC (iRem (iShr .u64 n1 (IntKind.wrap .u64 (iMul .i64 4 n2))) 16) (Int.toNat (iAdd .u64 (iRem (iShr .u64 n1 (IntKind.wrap .u64 (iMul .i64 4 n2))) 16) 1)) ∧
 catOk (cutS (bs [48, 49, 50, 51, 52, 53, 54, 55, 56, 57, 97, 98, 99, 100, 101, 102]) (Int.toNat (iRem (iShr .u64 n1 (IntKind.wrap .u64 (iMul .i64 4 n2))) 16)) (Int.toNat (iAdd .u64 (iRem (iShr .u64 n1 (IntKind.wrap .u64 (iMul .i64 4 n2))) 16) 1))) s1 ∧
 L1 [.string (cat (cutS (bs [48, 49, 50, 51, 52, 53, 54, 55, 56, 57, 97, 98, 99, 100, 101, 102]) (Int.toNat (iRem (iShr .u64 n1 (IntKind.wrap .u64 (iMul .i64 4 n2))) 16)) (Int.toNat (iAdd .u64 (iRem (iShr .u64 n1 (IntKind.wrap .u64 (iMul .i64 4 n2))) 16) 1))) s1), .int .i64 (iAdd .i64 n2 1)] w2) (
 K (.string s1) w2)) → L1 [.string s1, .int .i64 n2] w2) → L1 [.string (bs []), .int .i64 0] w1) X
theorem repriseref21_hex.ok : annOk Tryz.f25 repriseref21_hex.ann (Tryz.f25.body.getD .skip) 1 = true := by kernel_rfl
theorem repriseref21_hex.eq {a0 : Nat} {w : World} {K : Value → World → Prop} {X : List PanicEntry → World → Prop} : repriseref21_hex.F a0 w K X = vc P repriseref21_hex.ann (Tryz.f25.body.getD .skip) (retQ P Tryz.f25 K X) (argE [.float .f64 a0]) w := by kernel_rfl
theorem repriseref21_hex.call {a0 : Nat} {w : World} {K : Value → World → Prop} {X : List PanicEntry → World → Prop} (h : repriseref21_hex.F a0 w K X) : call P 25 [.float .f64 a0] w K X :=
  call_of good Tryz.func25 (c := (Tryz.f25.body.getD .skip)) (by kernel_rfl) repriseref21_hex.ann repriseref21_hex.ok (Eq.mp repriseref21_hex.eq h)

/-- reprise/repriseref21.Line -/
def repriseref21_Line.ann : Ann := .seq (.reg (.op 0 [] (.op 1 [] (.op 2 [] .nil)))) (.seq (.reg (.op 0 [] (.op 1 [] (.op 2 [] (.op 3 [] .nil))))) (.seq (.seq (.reg (.op 0 [] (.op 1 [] .nil))) (.cond (.seq (.reg (.op 0 [] (.op 1 [] .nil))) .leaf) .leaf)) (.seq (.reg (.op 0 [] (.op 1 [] (.op 2 [] (.op 3 [] (.op 4 [] (.op 5 [] (.op 6 [] .nil)))))))) (.seq (.reg (.op 0 [] (.op 1 [] .nil))) (.seq (.seq (.reg (.op 0 [] .nil)) (.blk (.loop 1180591620717410255232 [(7, .leaf (.str)), (8, .leaf (.int .i64))] (.seq (.seq (.reg (.op 0 [] (.op 1 [] (.op 2 [] (.op 3 [] .nil))))) (.cond .leaf .leaf)) (.seq (.blk (.seq (.reg (.op 0 [] (.op 1 [] (.op 2 [] .nil)))) (.blk (.seq (.reg (.op 0 [] (.op 1 [] .nil))) (.cond (.seq (.reg (.op 0 [] (.op 1 [] (.op 2 [] (.op 3 [] (.op 4 [] (.op 5 [] (.op 6 [] .nil)))))))) (.reg (.op 0 [] (.op 1 [] .nil)))) (.seq (.reg (.op 0 [] (.op 1 [] .nil))) (.cond (.seq (.reg (.op 0 [] (.op 1 [] (.op 2 [] (.op 3 [] (.op 4 [] (.op 5 [] (.op 6 [] .nil)))))))) (.reg (.op 0 [] (.op 1 [] .nil)))) (.seq (.reg (.op 0 [] (.op 1 [] .nil))) (.cond (.seq (.reg (.op 0 [] (.op 1 [] (.op 2 [] (.op 3 [] (.op 4 [] (.op 5 [] (.op 6 [] (.op 7 [] (.op 8 [] .nil)))))))))) (.reg (.op 0 [] (.op 1 [] (.op 2 [] .nil))))) (.seq (.reg (.op 0 [] (.op 1 [] .nil))) (.cond (.seq (.reg (.op 0 [] (.op 1 [] (.op 2 [] (.op 3 [] (.op 4 [] (.op 5 [] (.op 6 [] (.op 7 [] .nil))))))))) (.reg (.op 0 [] (.op 1 [] (.op 2 [] .nil))))) .leaf))))))))))) (.reg (.op 0 [] (.op 1 [] (.op 2 [] .nil))))))))) (.seq (.seq (.reg (.op 0 [] (.op 1 [] (.op 2 [] (.op 3 [] (.split 73 (.op 4 [] (.op 5 [] (.op 6 [] (.op 7 [] .nil)))) 283341988972178712821760 [(77, .leaf (.bool))] (.op 8 [] (.split 78 (.op 9 [] (.op 10 [] (.op 11 [] (.op 12 [] (.op 13 [] .nil))))) 18738350204026752207945728 [(83, .leaf (.bool))] (.op 14 [] (.split 84 (.op 15 [] (.op 16 [] (.op 17 [] (.op 18 [] (.op 19 [] (.op 20 [] .nil)))))) 2437194452343092416207650816 [(90, .leaf (.bool))] .nil)))))))))) (.cond (.seq (.reg (.op 0 [] (.op 1 [] .nil))) .leaf) .leaf)) (.seq (.reg (.op 0 [] (.op 1 [] (.op 2 [] .nil)))) .leaf)))))))
def repriseref21_Line.F (a0_0 : Int) (a0_1 : Int) (a0_2 : Int) (a0_3 : Int) (a0_4 : Nat) (w : World) (K : Value → World → Prop) (X : List PanicEntry → World → Prop) : Prop :=
 al w (.cells (#[.int .i64 a0_0, .int .i64 a0_1, .int .i64 a0_2, .int .u64 a0_3, .float .f64 a0_4]) 46) fun k1 w1 =>
 ld w1 (⟨k1, 0, none⟩ : Addr) fun v1 =>
 asI .i64 v1 fun n1 =>
 call P 41 [.int .i64 n1] w1 (fun v2 w2 =>
 asS v2 fun s1 =>
 cnd (sEq s1 (bs [])) (
 K (.tuple #[.string (bs []), .int .i64 200]) w2) (
 call P 42 [.string s1] w2 (fun v3 w3 =>
 tuN 2 v3 (fun v4 v5 => show Prop from
 asS v4 fun s2 =>
 asI .i64 v5 fun n2 =>
 ∀ L1 : List Value → World → Prop, (∀ s3 n3 w4, (∀ _ : Env,
 cnd (iLt n3 (lenN (ByteArray.size s2))) (
 inB n3 (ByteArray.size s2) ∧
 cnd (iEq (bt s2 n3) 110) (
 catOk s3 (bs [32]) ∧
 ld w4 (⟨k1, 1, none⟩ : Addr) fun v7 =>
 asI .i64 v7 fun n4 =>
 call P 24 [.int .i64 n4] w4 (fun v8 w6 =>
 asS v8 fun s4 =>
 catOk (cat s3 (bs [32])) s4 ∧
 st w6 (⟨k1, 1, none⟩ : Addr) [.int .i64 0] fun w7 =>
 L1 [.string (cat (cat s3 (bs [32])) s4), .int .i64 (iAdd .i64 n3 1)] w7) X) (
 cnd (iEq (bt s2 n3) 107) (
 catOk s3 (bs [32]) ∧
 ld w4 (⟨k1, 2, none⟩ : Addr) fun v9 =>
 asI .i64 v9 fun n5 =>
 call P 24 [.int .i64 n5] w4 (fun v10 w8 =>
 asS v10 fun s5 =>
 catOk (cat s3 (bs [32])) s5 ∧
 st w8 (⟨k1, 2, none⟩ : Addr) [.int .i64 0] fun w9 =>
 L1 [.string (cat (cat s3 (bs [32])) s5), .int .i64 (iAdd .i64 n3 1)] w9) X) (
 cnd (iEq (bt s2 n3) 117) (
 catOk s3 (bs [32]) ∧
 ld w4 (⟨k1, 3, none⟩ : Addr) fun v11 =>
 asI .u64 v11 fun n6 =>
 call P 39 [.int .i64 1, .agg #[.bool true, .int .u64 n6]] w4 (fun v12 w10 =>
 asS v12 fun s6 =>
 catOk (cat s3 (bs [32])) s6 ∧
 st w10 (⟨k1, 3, none⟩ : Addr) [.int .u64 0] fun w11 =>
 L1 [.string (cat (cat s3 (bs [32])) s6), .int .i64 (iAdd .i64 n3 1)] w11) X) (
 cnd (iEq (bt s2 n3) 118) (
 catOk s3 (bs [32]) ∧
 ld w4 (⟨k1, 4, none⟩ : Addr) fun v13 =>
 asF .f64 v13 fun x1 =>
 call P 25 [.float .f64 x1] w4 (fun v14 w12 =>
 asS v14 fun s7 =>
 catOk (cat s3 (bs [32])) s7 ∧
 st w12 (⟨k1, 4, none⟩ : Addr) [.float .f64 0] fun w13 =>
 L1 [.string (cat (cat s3 (bs [32])) s7), .int .i64 (iAdd .i64 n3 1)] w13) X) (
 L1 [.string s3, .int .i64 (iAdd .i64 n3 1)] w4))))) (
 ld w4 (⟨k1, 1, none⟩ : Addr) fun v15 =>
 asI .i64 v15 fun n7 =>
 ∀ K1 : List Value → World → Prop, (∀ b1 w14, (∀ _ : Env,
 ∀ K2 : List Value → World → Prop, (∀ b2 w15, (∀ _ : Env,
 ∀ K3 : List Value → World → Prop, (∀ b3 w16, (∀ _ : Env,
 cnd b3 (
 K (.tuple #[.string (bs []), .int .i64 1]) w16) (
 K (.tuple #[.string s3, .int .i64 0]) w16)) → K3 [.bool b3] w16) →
 cnd b2 (
 K3 [.bool true] w15) (
 ld w15 (⟨k1, 4, none⟩ : Addr) fun v16 =>
 asF .f64 v16 fun x2 =>
 call P 40 [.float .f64 x2] w15 (fun v17 w17 =>
 asI .u64 v17 fun n8 =>
 K3 [.bool (iNe n8 0)] w17) X)) → K2 [.bool b2] w15) →
 cnd b1 (
 K2 [.bool true] w14) (
 ld w14 (⟨k1, 3, none⟩ : Addr) fun v18 =>
 asI .u64 v18 fun n9 =>
 K2 [.bool (iNe n9 0)] w14)) → K1 [.bool b1] w14) →
 cnd (iNe n7 0) (
 K1 [.bool true] w4) (
 ld w4 (⟨k1, 2, none⟩ : Addr) fun v19 =>
 asI .i64 v19 fun n10 =>
 K1 [.bool (iNe n10 0)] w4))) → L1 [.string s3, .int .i64 n3] w4) → L1 [.string s1, .int .i64 0] w3)) X)) X
theorem repriseref21_Line.ok : annOk Tryz.f26 repriseref21_Line.ann (Tryz.f26.body.getD .skip) 1 = true := by kernel_rfl
theorem repriseref21_Line.eq {a0_0 : Int} {a0_1 : Int} {a0_2 : Int} {a0_3 : Int} {a0_4 : Nat} {w : World} {K : Value → World → Prop} {X : List PanicEntry → World → Prop} : repriseref21_Line.F a0_0 a0_1 a0_2 a0_3 a0_4 w K X = vc P repriseref21_Line.ann (Tryz.f26.body.getD .skip) (retQ P Tryz.f26 K X) (argE [.agg #[.int .i64 a0_0, .int .i64 a0_1, .int .i64 a0_2, .int .u64 a0_3, .float .f64 a0_4]]) w := by kernel_rfl
theorem repriseref21_Line.call {a0_0 : Int} {a0_1 : Int} {a0_2 : Int} {a0_3 : Int} {a0_4 : Nat} {w : World} {K : Value → World → Prop} {X : List PanicEntry → World → Prop} (h : repriseref21_Line.F a0_0 a0_1 a0_2 a0_3 a0_4 w K X) : call P 26 [.agg #[.int .i64 a0_0, .int .i64 a0_1, .int .i64 a0_2, .int .u64 a0_3, .float .f64 a0_4]] w K X :=
  call_of good Tryz.func26 (c := (Tryz.f26.body.getD .skip)) (by kernel_rfl) repriseref21_Line.ann repriseref21_Line.ok (Eq.mp repriseref21_Line.eq h)

/-- strings.SplitSeq -/
def strings_SplitSeq.ann : Ann := .seq (.reg (.op 0 [] .nil)) (.seq (.reg (.op 0 [] (.op 1 [] (.op 2 [] (.op 3 [] .nil))))) .leaf)
def strings_SplitSeq.F (a0 : ByteArray) (a1 : ByteArray) (w : World) (K : Value → World → Prop) (X : List PanicEntry → World → Prop) : Prop :=
 call P 43 [.string a0, .string a1, .int .i64 0] w (fun v1 w1 =>
 K (v1) w1) X
theorem strings_SplitSeq.ok : annOk Tryz.f28 strings_SplitSeq.ann (Tryz.f28.body.getD .skip) 2 = true := by kernel_rfl
theorem strings_SplitSeq.eq {a0 : ByteArray} {a1 : ByteArray} {w : World} {K : Value → World → Prop} {X : List PanicEntry → World → Prop} : strings_SplitSeq.F a0 a1 w K X = vc P strings_SplitSeq.ann (Tryz.f28.body.getD .skip) (retQ P Tryz.f28 K X) (argE [.string a0, .string a1]) w := by kernel_rfl
theorem strings_SplitSeq.call {a0 : ByteArray} {a1 : ByteArray} {w : World} {K : Value → World → Prop} {X : List PanicEntry → World → Prop} (h : strings_SplitSeq.F a0 a1 w K X) : call P 28 [.string a0, .string a1] w K X :=
  call_of good Tryz.func28 (c := (Tryz.f28.body.getD .skip)) (by kernel_rfl) strings_SplitSeq.ann strings_SplitSeq.ok (Eq.mp strings_SplitSeq.eq h)

/-- (*reprise/script.reader).line -/
def script_reader_line.ann : Ann := .seq (.reg (.op 0 [] (.op 1 [] (.op 2 [] .nil)))) (.seq (.reg (.op 0 [] (.op 1 [] (.op 2 [] (.op 3 [] .nil))))) (.seq (.reg (.op 0 [] (.op 1 [] (.op 2 [] .nil)))) (.blk (.seq (.reg (.op 0 [] (.op 1 [] (.op 2 [] (.op 3 [] (.op 4 [] (.op 5 [] .nil))))))) (.cond (.seq (.reg (.op 0 [] (.op 1 [] (.op 2 [] .nil)))) (.seq (.reg (.op 0 [] (.op 1 [] (.op 2 [] (.op 3 [] .nil))))) (.seq (.reg (.op 0 [] (.op 1 [] (.op 2 [] (.op 3 [] .nil))))) (.seq (.reg (.op 0 [] (.op 1 [] (.op 2 [] (.op 3 [] .nil))))) (.seq (.reg (.lt 0 (.lt 3 (.lt 6 (.lt 9 (.lt 12 (.lt 15 (.lt 18 (.lt 23 (.lt 1 (.lt 4 (.lt 7 (.lt 10 (.lt 13 (.lt 16 (.lt 19 (.lt 2 (.lt 5 (.lt 8 (.lt 11 (.lt 14 (.lt 17 (.lt 20 (.op 21 [] (.lt 22 .nil))))))))))))))))))))))))) (.blk (.loop 1237788923557928446252286336 [(77, .leaf (.int .i64))] (.seq (.reg (.op 0 [] .nil)) (.seq (.cond .leaf .leaf) (.seq (.blk (.seq (.reg (.op 0 [] (.op 1 [] (.op 2 [] (.op 3 [] (.op 4 [] .nil)))))) (.reg (.op 0 [] (.op 1 [] (.op 2 [] (.op 3 [] (.op 4 [] (.op 5 [] (.op 6 [] (.op 7 [] .nil))))))))))) (.reg (.op 0 [] (.op 1 [] .nil))))))))))))) (.seq (.reg (.op 0 [] (.op 1 [] (.op 2 [] (.split 93 (.op 3 [] (.op 4 [] (.op 5 [] (.op 6 [] (.op 7 [] (.op 8 [] (.op 9 [] .nil))))))) 2515494159827892718595020423168 [(100, .leaf (.bool))] (.op 10 [] .nil)))))) (.cond (.seq (.reg (.op 0 [] (.op 1 [] (.op 2 [] (.op 3 [] .nil))))) (.reg (.lt 0 (.lt 1 (.lt 6 (.lt 10 (.lt 14 (.lt 2 (.lt 7 (.lt 11 (.lt 15 (.lt 3 (.lt 8 (.lt 12 (.lt 16 (.lt 4 (.lt 5 (.op 9 [12, 16, 5] (.op 13 [16, 5] (.op 17 [5] (.lt 18 (.op 19 [5] (.op 20 [] (.lt 21 (.lt 22 (.lt 23 (.op 24 [] .nil))))))))))))))))))))))))))) (.seq (.reg (.op 0 [] (.op 1 [] (.op 2 [] (.op 3 [] (.op 4 [] (.op 5 [] (.op 6 [] .nil)))))))) (.reg (.lt 0 (.lt 1 (.lt 5 (.lt 6 (.lt 2 (.lt 3 (.lt 4 (.op 7 [4] (.op 8 [4] (.op 9 [] (.lt 10 (.lt 11 (.op 12 [] .nil))))))))))))))))))))))
def script_reader_line.F (a0 : Option Addr) (a1 : ByteArray) (w : World) (K : Value → World → Prop) (X : List PanicEntry → World → Prop) : Prop :=
 call P 44 [.string a1, .string (bs [32])] w (fun v1 w1 =>
 asL v1 fun q1 q1l q1c =>
 inB 0 q1l ∧ nn q1 fun d2 =>
 ∀ d1, d1 = Addr.add d2 (scale (Int.toNat 0) 1) →
 ld w1 d1 fun v2 =>
 asS v2 fun s1 =>
 inC 1 q1l ∧
 nn a0 fun d3 =>
 ld w1 (Addr.add d3 9) fun v3 =>
 asB v3 fun b1 =>
 cnd (!b1) (
 call P 30 [.bool (sEq s1 (bs [112, 108, 97, 110])), .int .i64 210] w1 (fun v4 w2 =>
 tuN 0 v4 (call P 30 [.bool (iEq (lenN (sb q1l (Int.toNat 1))) 7), .int .i64 211] w2 (fun v6 w4 =>
 tuN 0 v6 (nn a0 fun d4 =>
 st w4 (Addr.add d4 9) [.bool true] fun w5 =>
 nn a0 fun d5 =>
 ∀ w6, w6 = World.drew w5 →
 al w6 (.cells (#[.pointer (some d5), .pointer (some (Addr.add d5 1)), .pointer (some (Addr.add d5 2)), .pointer (some (Addr.add d5 4)), .pointer (some (Addr.add d5 5)), .pointer (some (Addr.add d5 6)), .pointer (some (Addr.add d5 7))]) 95) fun k1 w7 =>
 ∀ L1 : List Value → World → Prop, (∀ n1 w9, (∀ _ : Env,
 cnd (iLt n1 (lenN 7)) (
 inB n1 7 ∧ 
 ∀ d6, d6 = Addr.add (⟨k1, 0, none⟩ : Addr) (scale (Int.toNat n1) 1) →
 ld w9 d6 fun v8 =>
 asP v8 fun p1 =>
 inB n1 (sb q1l (Int.toNat 1)) ∧ nn (slA q1 (Int.toNat 1) q1c 1) fun d8 =>
 ∀ d7, d7 = Addr.add d8 (scale (Int.toNat n1) 1) →
 ld w9 d7 fun v9 =>
 asS v9 fun s2 =>
 call P 45 [.string s2] w9 (fun v10 w10 =>
 asI .i64 v10 fun n2 =>
 nn p1 fun d9 =>
 st w10 d9 [.int .i64 n2] fun w11 =>
 L1 [.int .i64 (iAdd .i64 n1 1)] w11) X) (
 K (.tuple #[]) w9)) → L1 [.int .i64 n1] w9) → L1 [.int .i64 0] w7)) X)) X) (
 ∀ K1 : List Value → World → Prop, (∀ b2 w12, (∀ _ : Env,
 cnd b2 (
 call P 30 [.bool (iEq (lenN (sb q1l (Int.toNat 1))) 3), .int .i64 211] w12 (fun v12 w14 =>
 tuN 0 v12 (∀ w15, w15 = World.drew w14 →
 nn a0 fun d10 =>
 inB 0 (sb q1l (Int.toNat 1)) ∧ nn (slA q1 (Int.toNat 1) q1c 1) fun d12 =>
 ∀ d11, d11 = Addr.add d12 (scale (Int.toNat 0) 1) →
 inB 1 (sb q1l (Int.toNat 1)) ∧ nn (slA q1 (Int.toNat 1) q1c 1) fun d14 =>
 ∀ d13, d13 = Addr.add d14 (scale (Int.toNat 1) 1) →
 inB 2 (sb q1l (Int.toNat 1)) ∧ nn (slA q1 (Int.toNat 1) q1c 1) fun d16 =>
 ∀ d15, d15 = Addr.add d16 (scale (Int.toNat 2) 1) →
 ld w15 d11 fun v13 =>
 asS v13 fun s3 =>
 ld w15 d13 fun v14 =>
 asS v14 fun s4 =>
 ld w15 d15 fun v15 =>
 asS v15 fun s5 =>
 ld w15 (Addr.add d10 3) fun v16 =>
 asL v16 fun q2 q2l q2c =>
 call P 45 [.string s3] w15 (fun v17 w16 =>
 asI .i64 v17 fun n3 =>
 World.cell? w16 d13 = some (.string s4) ∧
 World.cell? w16 d15 = some (.string s5) ∧
 World.cell? w16 (Addr.add d10 3) = some (.slice q2 q2l q2c) ∧
 call P 45 [.string s4] w16 (fun v18 w17 =>
 asI .i64 v18 fun n4 =>
 World.cell? w17 d15 = some (.string s5) ∧
 World.cell? w17 (Addr.add d10 3) = some (.slice q2 q2l q2c) ∧
 call P 46 [.string s5] w17 (fun v19 w18 =>
 asF .f64 v19 fun x1 =>
 World.cell? w18 (Addr.add d10 3) = some (.slice q2 q2l q2c) ∧
 al w18 (.cells (#[.int .i64 n3, .int .i64 n4, .float .f64 x1]) 49) fun k2 w19 =>
 World.cell? w19 (Addr.add d10 3) = some (.slice q2 q2l q2c) ∧
 runV P (Builtin.append_ #[22, 22] 22 #[.slice q2 q2l q2c, .slice (some ⟨k2, 0, none⟩) 1 1]) w19 (fun v21 w21 =>
 asL v21 fun q3 q3l q3c =>
 nn a0 fun d17 =>
 st w21 (Addr.add d17 3) [.slice q3 q3l q3c] fun w22 =>
 K (.tuple #[]) w22) X) X) X) X)) X) (
 nn a0 fun d18 =>
 ld w12 (Addr.add d18 8) fun v22 =>
 asL v22 fun q4 q4l q4c =>
 call P 30 [.bool (iLt (lenN q4l) 4096), .int .i64 212] w12 (fun v24 w24 =>
 tuN 0 v24 (∀ w25, w25 = World.drew w24 →
 nn a0 fun d19 =>
 ld w25 (Addr.add d19 8) fun v25 =>
 asL v25 fun q5 q5l q5c =>
 call P 47 [.string s1, .slice (slA q1 (Int.toNat 1) q1c 1) (sb q1l (Int.toNat 1)) (sb q1c (Int.toNat 1))] w25 (fun v26 w26 =>
 agN 5 v26 (fun v27 v28 v29 v30 v31 => show Prop from
 asI .i64 v27 fun n5 =>
 asI .i64 v28 fun n6 =>
 asI .i64 v29 fun n7 =>
 asI .u64 v30 fun n8 =>
 asF .f64 v31 fun x2 =>
 World.cell? w26 (Addr.add d19 8) = some (.slice q5 q5l q5c) ∧
 al w26 (.cells (#[.int .i64 n5, .int .i64 n6, .int .i64 n7, .int .u64 n8, .float .f64 x2]) 46) fun k3 w27 =>
 World.cell? w27 (Addr.add d19 8) = some (.slice q5 q5l q5c) ∧
 runV P (Builtin.append_ #[25, 25] 25 #[.slice q5 q5l q5c, .slice (some ⟨k3, 0, none⟩) 1 1]) w27 (fun v33 w29 =>
 asL v33 fun q6 q6l q6c =>
 nn a0 fun d20 =>
 st w29 (Addr.add d20 8) [.slice q6 q6l q6c] fun w30 =>
 K (.tuple #[]) w30) X)) X)) X)) → K1 [.bool b2] w12) →
 cnd (sEq s1 (bs [111, 112])) (
 nn a0 fun d21 =>
 ld w1 (Addr.add d21 8) fun v34 =>
 asL v34 fun q7 q7l q7c =>
 K1 [.bool (iEq (lenN q7l) 0)] w1) (
 K1 [.bool false] w1))) X
theorem script_reader_line.ok : annOk Tryz.f29 script_reader_line.ann (Tryz.f29.body.getD .skip) 2 = true := by kernel_rfl
theorem script_reader_line.eq {a0 : Option Addr} {a1 : ByteArray} {w : World} {K : Value → World → Prop} {X : List PanicEntry → World → Prop} : script_reader_line.F a0 a1 w K X = vc P script_reader_line.ann (Tryz.f29.body.getD .skip) (retQ P Tryz.f29 K X) (argE [.pointer a0, .string a1]) w := by kernel_rfl
theorem script_reader_line.call {a0 : Option Addr} {a1 : ByteArray} {w : World} {K : Value → World → Prop} {X : List PanicEntry → World → Prop} (h : script_reader_line.F a0 a1 w K X) : call P 29 [.pointer a0, .string a1] w K X :=
  call_of good Tryz.func29 (c := (Tryz.f29.body.getD .skip)) (by kernel_rfl) script_reader_line.ann script_reader_line.ok (Eq.mp script_reader_line.eq h)

/-- reprise/script.must -/
def script_must.ann : Ann := .seq (.reg (.op 0 [] (.op 1 [] .nil))) (.cond (.reg (.op 0 [] (.op 1 [] (.op 2 [] (.op 3 [] .nil))))) .leaf)
def script_must.F (a0 : Bool) (a1 : Int) (w : World) (K : Value → World → Prop) (X : List PanicEntry → World → Prop) : Prop :=
 cnd (!a0) (
 runV P (Instr.panic (.iface 68 (.agg #[.int .i64 a1]))) w (fun v1 w1 =>
 K (.tuple #[]) w1) X) (
 K (.tuple #[]) w)
theorem script_must.ok : annOk Tryz.f30 script_must.ann (Tryz.f30.body.getD .skip) 2 = true := by kernel_rfl
theorem script_must.eq {a0 : Bool} {a1 : Int} {w : World} {K : Value → World → Prop} {X : List PanicEntry → World → Prop} : script_must.F a0 a1 w K X = vc P script_must.ann (Tryz.f30.body.getD .skip) (retQ P Tryz.f30 K X) (argE [.bool a0, .int .i64 a1]) w := by kernel_rfl
theorem script_must.call {a0 : Bool} {a1 : Int} {w : World} {K : Value → World → Prop} {X : List PanicEntry → World → Prop} (h : script_must.F a0 a1 w K X) : call P 30 [.bool a0, .int .i64 a1] w K X :=
  call_of good Tryz.func30 (c := (Tryz.f30.body.getD .skip)) (by kernel_rfl) script_must.ann script_must.ok (Eq.mp script_must.eq h)

/-- reprise/repriseraw.Same -/
def repriseraw_Same.ann : Ann := .seq (.reg (.op 0 [] .nil)) (.seq (.reg (.op 0 [] (.op 1 [] (.op 2 [] (.op 3 [] (.op 4 [] (.op 5 [] .nil))))))) .leaf)
def repriseraw_Same.F (a0 : Nat) (a1 : Nat) (w : World) (K : Value → World → Prop) (X : List PanicEntry → World → Prop) : Prop :=
 callX P 36 [.float .f64 a0] w (fun v1 w1 =>
 asI .u64 v1 fun n1 =>
 callX P 36 [.float .f64 a1] w1 (fun v2 w2 =>
 asI .u64 v2 fun n2 =>
 K (.bool (iEq n1 n2)) w2) X) X
theorem repriseraw_Same.ok : annOk Tryz.f31 repriseraw_Same.ann (Tryz.f31.body.getD .skip) 2 = true := by kernel_rfl
theorem repriseraw_Same.eq {a0 : Nat} {a1 : Nat} {w : World} {K : Value → World → Prop} {X : List PanicEntry → World → Prop} : repriseraw_Same.F a0 a1 w K X = vc P repriseraw_Same.ann (Tryz.f31.body.getD .skip) (retQ P Tryz.f31 K X) (argE [.float .f64 a0, .float .f64 a1]) w := by kernel_rfl
theorem repriseraw_Same.call {a0 : Nat} {a1 : Nat} {w : World} {K : Value → World → Prop} {X : List PanicEntry → World → Prop} (h : repriseraw_Same.F a0 a1 w K X) : call P 31 [.float .f64 a0, .float .f64 a1] w K X :=
  call_of good Tryz.func31 (c := (Tryz.f31.body.getD .skip)) (by kernel_rfl) repriseraw_Same.ann repriseraw_Same.ok (Eq.mp repriseraw_Same.eq h)

/-- (*strings.Builder).copyCheck -/
def strings_Builder_copyCheck.ann : Ann := .seq (.reg (.op 0 [] (.op 1 [] (.op 2 [] (.op 3 [] (.op 4 [] .nil)))))) (.cond (.reg (.op 0 [] (.op 1 [] (.op 2 [] (.op 3 [] (.op 4 [] (.op 5 [] (.op 6 [] (.op 7 [] .nil))))))))) (.seq (.reg (.op 0 [] (.op 1 [] (.op 2 [] (.op 3 [] (.op 4 [] (.op 5 [] .nil))))))) (.cond .leaf .leaf)))
def strings_Builder_copyCheck.F (a0 : Option Addr) (w : World) (K : Value → World → Prop) (X : List PanicEntry → World → Prop) : Prop :=
 nn a0 fun d1 =>
 ld w d1 fun v1 =>
 asP v1 fun p1 =>
 cnd (nb false (Option.isNone p1)) (
 runV P (convert 50 100 (.pointer a0)) w (fun v2 w1 =>
 asP v2 fun p2 =>
 callX P 48 [.pointer p2] w1 (fun v3 w2 =>
 asP v3 fun p3 =>
 runV P (convert 100 50 (.pointer p3)) w2 (fun v4 w3 =>
 asP v4 fun p4 =>
 nn a0 fun d2 =>
 st w3 d2 [.pointer p4] fun w4 =>
 K (.tuple #[]) w4) X) X) X) (
 nn a0 fun d3 =>
 ld w d3 fun v5 =>
 asP v5 fun p5 =>
 runV P (do eqGuard .neq 50 (.tmp 17) (.tmp 18) (.pointer p5) (.pointer a0); binOp .neq 50 (.pointer p5) (.pointer a0)) w (fun v6 w5 =>
 asB v6 fun b1 =>
 cnd b1 (
 False) (
 K (.tuple #[]) w5)) X)
theorem strings_Builder_copyCheck.ok : annOk Tryz.f32 strings_Builder_copyCheck.ann (Tryz.f32.body.getD .skip) 1 = true := by kernel_rfl
theorem strings_Builder_copyCheck.eq {a0 : Option Addr} {w : World} {K : Value → World → Prop} {X : List PanicEntry → World → Prop} : strings_Builder_copyCheck.F a0 w K X = vc P strings_Builder_copyCheck.ann (Tryz.f32.body.getD .skip) (retQ P Tryz.f32 K X) (argE [.pointer a0]) w := by kernel_rfl
theorem strings_Builder_copyCheck.call {a0 : Option Addr} {w : World} {K : Value → World → Prop} {X : List PanicEntry → World → Prop} (h : strings_Builder_copyCheck.F a0 w K X) : call P 32 [.pointer a0] w K X :=
  call_of good Tryz.func32 (c := (Tryz.f32.body.getD .skip)) (by kernel_rfl) strings_Builder_copyCheck.ann strings_Builder_copyCheck.ok (Eq.mp strings_Builder_copyCheck.eq h)

end Go.Proofs.YtgfbkmclekafbaaGreatDoor
