/- Readings of functions of the program, printed by gen.py out of the translation: each with the proof that it gives the call. -/
import Derived.Test.YtgfbkmclekafbaaGreatDoorQBase
import Derived.Test.YtgfbkmclekafbaaGreatDoorQRs
set_option linter.unusedVariables false
set_option linter.unusedSimpArgs false
set_option linter.unnecessarySimpa false
set_option maxRecDepth 100000
namespace Go.Proofs.YtgfbkmclekafbaaGreatDoor
open Go Go.Vc

/-- strings.Trim -/
def strings_Trim.ann : Ann := .seq (.reg (.op 0 [] .nil)) (.seq (.seq (.reg (.op 0 [] (.op 1 [] (.op 2 [] (.split 9 (.op 3 [] (.op 4 [] (.op 5 [] .nil))) 7168 [(12, .leaf (.bool))] .nil))))) (.cond (.seq (.reg (.op 0 [] (.op 1 [] .nil))) .leaf) .leaf)) (.seq (.seq (.reg (.op 0 [] (.op 1 [] (.op 2 [] (.op 3 [] (.split 17 (.op 4 [] (.op 5 [] (.op 6 [] (.op 7 [] .nil)))) 3932160 [(21, .leaf (.bool))] .nil)))))) (.cond (.seq (.reg (.lt 0 (.lt 1 (.lt 4 (.lt 2 (.lt 5 (.op 3 [] (.op 6 [] (.lt 7 .nil))))))))) .leaf) .leaf)) (.seq (.seq (.reg (.op 0 [] (.op 1 [] (.op 2 [] (.op 3 [] (.op 4 [] (.op 5 [] (.op 6 [] (.op 7 [] .nil))))))))) (.seq (.reg (.op 0 [] .nil)) (.cond (.seq (.reg (.op 0 [] (.op 1 [] (.op 2 [] (.op 3 [] .nil))))) .leaf) .leaf))) (.seq (.reg (.op 0 [] (.op 1 [] (.op 2 [] (.op 3 [] (.op 4 [] (.op 5 [] .nil))))))) .leaf))))
def strings_Trim.F (a0 : ByteArray) (a1 : ByteArray) (w : World) (K : Value → World → Prop) (X : List PanicEntry → World → Prop) : Prop :=
 ∀ K1 : List Value → World → Prop, (∀ b1 w1, (∀ _ : Env,
 cnd b1 (
 K (.string a0) w1) (
 ∀ K2 : List Value → World → Prop, (∀ b2 w3, (∀ _ : Env,
 cnd b2 (
 ∀ w4, w4 = World.drew w3 →
 inB 0 (ByteArray.size a1) ∧
 inB 0 (ByteArray.size a1) ∧
 call P 87 [.string a0, .int .u8 (bt a1 0)] w4 (fun v2 w5 =>
 asS v2 fun s1 =>
 call P 86 [.string s1, .int .u8 (bt a1 0)] w5 (fun v3 w6 =>
 asS v3 fun s2 =>
 K (.string s2) w6) X) X) (
 call P 88 [.string a1] w3 (fun v4 w7 =>
 tuN 2 v4 (fun v5 v6 => show Prop from
 agN 256 v5 (fun v7 v8 v9 v10 v11 v12 v13 v14 v15 v16 v17 v18 v19 v20 v21 v22 v23 v24 v25 v26 v27 v28 v29 v30 v31 v32 v33 v34 v35 v36 v37 v38 v39 v40 v41 v42 v43 v44 v45 v46 v47 v48 v49 v50 v51 v52 v53 v54 v55 v56 v57 v58 v59 v60 v61 v62 v63 v64 v65 v66 v67 v68 v69 v70 v71 v72 v73 v74 v75 v76 v77 v78 v79 v80 v81 v82 v83 v84 v85 v86 v87 v88 v89 v90 v91 v92 v93 v94 v95 v96 v97 v98 v99 v100 v101 v102 v103 v104 v105 v106 v107 v108 v109 v110 v111 v112 v113 v114 v115 v116 v117 v118 v119 v120 v121 v122 v123 v124 v125 v126 v127 v128 v129 v130 v131 v132 v133 v134 v135 v136 v137 v138 v139 v140 v141 v142 v143 v144 v145 v146 v147 v148 v149 v150 v151 v152 v153 v154 v155 v156 v157 v158 v159 v160 v161 v162 v163 v164 v165 v166 v167 v168 v169 v170 v171 v172 v173 v174 v175 v176 v177 v178 v179 v180 v181 v182 v183 v184 v185 v186 v187 v188 v189 v190 v191 v192 v193 v194 v195 v196 v197 v198 v199 v200 v201 v202 v203 v204 v205 v206 v207 v208 v209 v210 v211 v212 v213 v214 v215 v216 v217 v218 v219 v220 v221 v222 v223 v224 v225 v226 v227 v228 v229 v230 v231 v232 v233 v234 v235 v236 v237 v238 v239 v240 v241 v242 v243 v244 v245 v246 v247 v248 v249 v250 v251 v252 v253 v254 v255 v256 v257 v258 v259 v260 v261 v262 => show Prop from
 asB v7 fun b3 =>
 asB v8 fun b4 =>
 asB v9 fun b5 =>
 asB v10 fun b6 =>
 asB v11 fun b7 =>
 asB v12 fun b8 =>
 asB v13 fun b9 =>
 asB v14 fun b10 =>
 asB v15 fun b11 =>
 asB v16 fun b12 =>
 asB v17 fun b13 =>
 asB v18 fun b14 =>
 asB v19 fun b15 =>
 asB v20 fun b16 =>
 asB v21 fun b17 =>
 asB v22 fun b18 =>
 asB v23 fun b19 =>
 asB v24 fun b20 =>
 asB v25 fun b21 =>
 asB v26 fun b22 =>
 asB v27 fun b23 =>
 asB v28 fun b24 =>
 asB v29 fun b25 =>
 asB v30 fun b26 =>
 asB v31 fun b27 =>
 asB v32 fun b28 =>
 asB v33 fun b29 =>
 asB v34 fun b30 =>
 asB v35 fun b31 =>
 asB v36 fun b32 =>
 asB v37 fun b33 =>
 asB v38 fun b34 =>
 asB v39 fun b35 =>
 asB v40 fun b36 =>
 asB v41 fun b37 =>
 asB v42 fun b38 =>
 asB v43 fun b39 =>
 asB v44 fun b40 =>
 asB v45 fun b41 =>
 asB v46 fun b42 =>
 asB v47 fun b43 =>
 asB v48 fun b44 =>
 asB v49 fun b45 =>
 asB v50 fun b46 =>
 asB v51 fun b47 =>
 asB v52 fun b48 =>
 asB v53 fun b49 =>
 asB v54 fun b50 =>
 asB v55 fun b51 =>
 asB v56 fun b52 =>
 asB v57 fun b53 =>
 asB v58 fun b54 =>
 asB v59 fun b55 =>
 asB v60 fun b56 =>
 asB v61 fun b57 =>
 asB v62 fun b58 =>
 asB v63 fun b59 =>
 asB v64 fun b60 =>
 asB v65 fun b61 =>
 asB v66 fun b62 =>
 asB v67 fun b63 =>
 asB v68 fun b64 =>
 asB v69 fun b65 =>
 asB v70 fun b66 =>
 asB v71 fun b67 =>
 asB v72 fun b68 =>
 asB v73 fun b69 =>
 asB v74 fun b70 =>
 asB v75 fun b71 =>
 asB v76 fun b72 =>
 asB v77 fun b73 =>
 asB v78 fun b74 =>
 asB v79 fun b75 =>
 asB v80 fun b76 =>
 asB v81 fun b77 =>
 asB v82 fun b78 =>
 asB v83 fun b79 =>
 asB v84 fun b80 =>
 asB v85 fun b81 =>
 asB v86 fun b82 =>
 asB v87 fun b83 =>
 asB v88 fun b84 =>
 asB v89 fun b85 =>
 asB v90 fun b86 =>
 asB v91 fun b87 =>
 asB v92 fun b88 =>
 asB v93 fun b89 =>
 asB v94 fun b90 =>
 asB v95 fun b91 =>
 asB v96 fun b92 =>
 asB v97 fun b93 =>
 asB v98 fun b94 =>
 asB v99 fun b95 =>
 asB v100 fun b96 =>
 asB v101 fun b97 =>
 asB v102 fun b98 =>
 asB v103 fun b99 =>
 asB v104 fun b100 =>
 asB v105 fun b101 =>
 asB v106 fun b102 =>
 asB v107 fun b103 =>
 asB v108 fun b104 =>
 asB v109 fun b105 =>
 asB v110 fun b106 =>
 asB v111 fun b107 =>
 asB v112 fun b108 =>
 asB v113 fun b109 =>
 asB v114 fun b110 =>
 asB v115 fun b111 =>
 asB v116 fun b112 =>
 asB v117 fun b113 =>
 asB v118 fun b114 =>
 asB v119 fun b115 =>
 asB v120 fun b116 =>
 asB v121 fun b117 =>
 asB v122 fun b118 =>
 asB v123 fun b119 =>
 asB v124 fun b120 =>
 asB v125 fun b121 =>
 asB v126 fun b122 =>
 asB v127 fun b123 =>
 asB v128 fun b124 =>
 asB v129 fun b125 =>
 asB v130 fun b126 =>
 asB v131 fun b127 =>
 asB v132 fun b128 =>
 asB v133 fun b129 =>
 asB v134 fun b130 =>
 asB v135 fun b131 =>
 asB v136 fun b132 =>
 asB v137 fun b133 =>
 asB v138 fun b134 =>
 asB v139 fun b135 =>
 asB v140 fun b136 =>
 asB v141 fun b137 =>
 asB v142 fun b138 =>
 asB v143 fun b139 =>
 asB v144 fun b140 =>
 asB v145 fun b141 =>
 asB v146 fun b142 =>
 asB v147 fun b143 =>
 asB v148 fun b144 =>
 asB v149 fun b145 =>
 asB v150 fun b146 =>
 asB v151 fun b147 =>
 asB v152 fun b148 =>
 asB v153 fun b149 =>
 asB v154 fun b150 =>
 asB v155 fun b151 =>
 asB v156 fun b152 =>
 asB v157 fun b153 =>
 asB v158 fun b154 =>
 asB v159 fun b155 =>
 asB v160 fun b156 =>
 asB v161 fun b157 =>
 asB v162 fun b158 =>
 asB v163 fun b159 =>
 asB v164 fun b160 =>
 asB v165 fun b161 =>
 asB v166 fun b162 =>
 asB v167 fun b163 =>
 asB v168 fun b164 =>
 asB v169 fun b165 =>
 asB v170 fun b166 =>
 asB v171 fun b167 =>
 asB v172 fun b168 =>
 asB v173 fun b169 =>
 asB v174 fun b170 =>
 asB v175 fun b171 =>
 asB v176 fun b172 =>
 asB v177 fun b173 =>
 asB v178 fun b174 =>
 asB v179 fun b175 =>
 asB v180 fun b176 =>
 asB v181 fun b177 =>
 asB v182 fun b178 =>
 asB v183 fun b179 =>
 asB v184 fun b180 =>
 asB v185 fun b181 =>
 asB v186 fun b182 =>
 asB v187 fun b183 =>
 asB v188 fun b184 =>
 asB v189 fun b185 =>
 asB v190 fun b186 =>
 asB v191 fun b187 =>
 asB v192 fun b188 =>
 asB v193 fun b189 =>
 asB v194 fun b190 =>
 asB v195 fun b191 =>
 asB v196 fun b192 =>
 asB v197 fun b193 =>
 asB v198 fun b194 =>
 asB v199 fun b195 =>
 asB v200 fun b196 =>
 asB v201 fun b197 =>
 asB v202 fun b198 =>
 asB v203 fun b199 =>
 asB v204 fun b200 =>
 asB v205 fun b201 =>
 asB v206 fun b202 =>
 asB v207 fun b203 =>
 asB v208 fun b204 =>
 asB v209 fun b205 =>
 asB v210 fun b206 =>
 asB v211 fun b207 =>
 asB v212 fun b208 =>
 asB v213 fun b209 =>
 asB v214 fun b210 =>
 asB v215 fun b211 =>
 asB v216 fun b212 =>
 asB v217 fun b213 =>
 asB v218 fun b214 =>
 asB v219 fun b215 =>
 asB v220 fun b216 =>
 asB v221 fun b217 =>
 asB v222 fun b218 =>
 asB v223 fun b219 =>
 asB v224 fun b220 =>
 asB v225 fun b221 =>
 asB v226 fun b222 =>
 asB v227 fun b223 =>
 asB v228 fun b224 =>
 asB v229 fun b225 =>
 asB v230 fun b226 =>
 asB v231 fun b227 =>
 asB v232 fun b228 =>
 asB v233 fun b229 =>
 asB v234 fun b230 =>
 asB v235 fun b231 =>
 asB v236 fun b232 =>
 asB v237 fun b233 =>
 asB v238 fun b234 =>
 asB v239 fun b235 =>
 asB v240 fun b236 =>
 asB v241 fun b237 =>
 asB v242 fun b238 =>
 asB v243 fun b239 =>
 asB v244 fun b240 =>
 asB v245 fun b241 =>
 asB v246 fun b242 =>
 asB v247 fun b243 =>
 asB v248 fun b244 =>
 asB v249 fun b245 =>
 asB v250 fun b246 =>
 asB v251 fun b247 =>
 asB v252 fun b248 =>
 asB v253 fun b249 =>
 asB v254 fun b250 =>
 asB v255 fun b251 =>
 asB v256 fun b252 =>
 asB v257 fun b253 =>
 asB v258 fun b254 =>
 asB v259 fun b255 =>
 asB v260 fun b256 =>
 asB v261 fun b257 =>
 asB v262 fun b258 =>
 asB v6 fun b259 =>
 al w7 (.cells (#[.bool false, .bool false, .bool false, .bool false, .bool false, .bool false, .bool false, .bool false, .bool false, .bool false, .bool false, .bool false, .bool false, .bool false, .bool false, .bool false, .bool false, .bool false, .bool false, .bool false, .bool false, .bool false, .bool false, .bool false, .bool false, .bool false, .bool false, .bool false, .bool false, .bool false, .bool false, .bool false, .bool false, .bool false, .bool false, .bool false, .bool false, .bool false, .bool false, .bool false, .bool false, .bool false, .bool false, .bool false, .bool false, .bool false, .bool false, .bool false, .bool false, .bool false, .bool false, .bool false, .bool false, .bool false, .bool false, .bool false, .bool false, .bool false, .bool false, .bool false, .bool false, .bool false, .bool false, .bool false, .bool false, .bool false, .bool false, .bool false, .bool false, .bool false, .bool false, .bool false, .bool false, .bool false, .bool false, .bool false, .bool false, .bool false, .bool false, .bool false, .bool false, .bool false, .bool false, .bool false, .bool false, .bool false, .bool false, .bool false, .bool false, .bool false, .bool false, .bool false, .bool false, .bool false, .bool false, .bool false, .bool false, .bool false, .bool false, .bool false, .bool false, .bool false, .bool false, .bool false, .bool false, .bool false, .bool false, .bool false, .bool false, .bool false, .bool false, .bool false, .bool false, .bool false, .bool false, .bool false, .bool false, .bool false, .bool false, .bool false, .bool false, .bool false, .bool false, .bool false, .bool false, .bool false, .bool false, .bool false, .bool false, .bool false, .bool false, .bool false, .bool false, .bool false, .bool false, .bool false, .bool false, .bool false, .bool false, .bool false, .bool false, .bool false, .bool false, .bool false, .bool false, .bool false, .bool false, .bool false, .bool false, .bool false, .bool false, .bool false, .bool false, .bool false, .bool false, .bool false, .bool false, .bool false, .bool false, .bool false, .bool false, .bool false, .bool false, .bool false, .bool false, .bool false, .bool false, .bool false, .bool false, .bool false, .bool false, .bool false, .bool false, .bool false, .bool false, .bool false, .bool false, .bool false, .bool false, .bool false, .bool false, .bool false, .bool false, .bool false, .bool false, .bool false, .bool false, .bool false, .bool false, .bool false, .bool false, .bool false, .bool false, .bool false, .bool false, .bool false, .bool false, .bool false, .bool false, .bool false, .bool false, .bool false, .bool false, .bool false, .bool false, .bool false, .bool false, .bool false, .bool false, .bool false, .bool false, .bool false, .bool false, .bool false, .bool false, .bool false, .bool false, .bool false, .bool false, .bool false, .bool false, .bool false, .bool false, .bool false, .bool false, .bool false, .bool false, .bool false, .bool false, .bool false, .bool false, .bool false, .bool false, .bool false, .bool false, .bool false, .bool false, .bool false, .bool false, .bool false, .bool false, .bool false, .bool false, .bool false, .bool false, .bool false, .bool false, .bool false, .bool false, .bool false, .bool false, .bool false, .bool false, .bool false, .bool false, .bool false]) 141) fun k1 w8 =>
 st w8 (⟨k1, 0, none⟩ : Addr) [.bool b3, .bool b4, .bool b5, .bool b6, .bool b7, .bool b8, .bool b9, .bool b10, .bool b11, .bool b12, .bool b13, .bool b14, .bool b15, .bool b16, .bool b17, .bool b18, .bool b19, .bool b20, .bool b21, .bool b22, .bool b23, .bool b24, .bool b25, .bool b26, .bool b27, .bool b28, .bool b29, .bool b30, .bool b31, .bool b32, .bool b33, .bool b34, .bool b35, .bool b36, .bool b37, .bool b38, .bool b39, .bool b40, .bool b41, .bool b42, .bool b43, .bool b44, .bool b45, .bool b46, .bool b47, .bool b48, .bool b49, .bool b50, .bool b51, .bool b52, .bool b53, .bool b54, .bool b55, .bool b56, .bool b57, .bool b58, .bool b59, .bool b60, .bool b61, .bool b62, .bool b63, .bool b64, .bool b65, .bool b66, .bool b67, .bool b68, .bool b69, .bool b70, .bool b71, .bool b72, .bool b73, .bool b74, .bool b75, .bool b76, .bool b77, .bool b78, .bool b79, .bool b80, .bool b81, .bool b82, .bool b83, .bool b84, .bool b85, .bool b86, .bool b87, .bool b88, .bool b89, .bool b90, .bool b91, .bool b92, .bool b93, .bool b94, .bool b95, .bool b96, .bool b97, .bool b98, .bool b99, .bool b100, .bool b101, .bool b102, .bool b103, .bool b104, .bool b105, .bool b106, .bool b107, .bool b108, .bool b109, .bool b110, .bool b111, .bool b112, .bool b113, .bool b114, .bool b115, .bool b116, .bool b117, .bool b118, .bool b119, .bool b120, .bool b121, .bool b122, .bool b123, .bool b124, .bool b125, .bool b126, .bool b127, .bool b128, .bool b129, .bool b130, .bool b131, .bool b132, .bool b133, .bool b134, .bool b135, .bool b136, .bool b137, .bool b138, .bool b139, .bool b140, .bool b141, .bool b142, .bool b143, .bool b144, .bool b145, .bool b146, .bool b147, .bool b148, .bool b149, .bool b150, .bool b151, .bool b152, .bool b153, .bool b154, .bool b155, .bool b156, .bool b157, .bool b158, .bool b159, .bool b160, .bool b161, .bool b162, .bool b163, .bool b164, .bool b165, .bool b166, .bool b167, .bool b168, .bool b169, .bool b170, .bool b171, .bool b172, .bool b173, .bool b174, .bool b175, .bool b176, .bool b177, .bool b178, .bool b179, .bool b180, .bool b181, .bool b182, .bool b183, .bool b184, .bool b185, .bool b186, .bool b187, .bool b188, .bool b189, .bool b190, .bool b191, .bool b192, .bool b193, .bool b194, .bool b195, .bool b196, .bool b197, .bool b198, .bool b199, .bool b200, .bool b201, .bool b202, .bool b203, .bool b204, .bool b205, .bool b206, .bool b207, .bool b208, .bool b209, .bool b210, .bool b211, .bool b212, .bool b213, .bool b214, .bool b215, .bool b216, .bool b217, .bool b218, .bool b219, .bool b220, .bool b221, .bool b222, .bool b223, .bool b224, .bool b225, .bool b226, .bool b227, .bool b228, .bool b229, .bool b230, .bool b231, .bool b232, .bool b233, .bool b234, .bool b235, .bool b236, .bool b237, .bool b238, .bool b239, .bool b240, .bool b241, .bool b242, .bool b243, .bool b244, .bool b245, .bool b246, .bool b247, .bool b248, .bool b249, .bool b250, .bool b251, .bool b252, .bool b253, .bool b254, .bool b255, .bool b256, .bool b257, .bool b258] fun w9 =>
 cnd b259 (
 call P 90 [.string a0, .pointer (some ⟨k1, 0, none⟩)] w9 (fun v263 w10 =>
 asS v263 fun s3 =>
 call P 89 [.string s3, .pointer (some ⟨k1, 0, none⟩)] w10 (fun v264 w11 =>
 asS v264 fun s4 =>
 K (.string s4) w11) X) X) (
 call P 92 [.string a0, .string a1] w9 (fun v265 w12 =>
 asS v265 fun s5 =>
 call P 91 [.string s5, .string a1] w12 (fun v266 w13 =>
 asS v266 fun s6 =>
 K (.string s6) w13) X) X)))) X)) → K2 [.bool b2] w3) →
 cnd (iEq (lenN (ByteArray.size a1)) 1) (
 inB 0 (ByteArray.size a1) ∧
 K2 [.bool (iLt (bt a1 0) 128)] w1) (
 K2 [.bool false] w1))) → K1 [.bool b1] w1) →
 cnd (sEq a0 (bs [])) (
 K1 [.bool true] w) (
 K1 [.bool (sEq a1 (bs []))] w)
theorem strings_Trim.ok : annOk Tryz.f65 strings_Trim.ann (Tryz.f65.body.getD .skip) 2 = true := by kernel_rfl
theorem strings_Trim.eq {a0 : ByteArray} {a1 : ByteArray} {w : World} {K : Value → World → Prop} {X : List PanicEntry → World → Prop} : strings_Trim.F a0 a1 w K X = vc P strings_Trim.ann (Tryz.f65.body.getD .skip) (retQ P Tryz.f65 K X) (argE [.string a0, .string a1]) w := by kernel_rfl
theorem strings_Trim.call {a0 : ByteArray} {a1 : ByteArray} {w : World} {K : Value → World → Prop} {X : List PanicEntry → World → Prop} (h : strings_Trim.F a0 a1 w K X) : call P 65 [.string a0, .string a1] w K X :=
  call_of good Tryz.func65 (c := (Tryz.f65.body.getD .skip)) (by kernel_rfl) strings_Trim.ann strings_Trim.ok (Eq.mp strings_Trim.eq h)

end Go.Proofs.YtgfbkmclekafbaaGreatDoor

/- Readings of pieces of functions, printed by gen.py. -/
set_option maxRecDepth 100000
namespace Go.Proofs.YtgfbkmclekafbaaGreatDoor
open Go Go.Vc

/-- a piece of reprise/script.Parse -/
def Pa.ann : Ann := .reg (.op 0 [] (.op 1 [] (.op 2 [] (.op 3 [] .nil))))
def Pa.F  (w : World) (N : List Value → World → Prop) (R : World → Prop) (X : List PanicEntry → World → Prop) : Prop :=
 al w (.cells (#[.int .i64 0, .int .i64 0, .int .i64 0, .slice none 0 0, .int .i64 0, .int .i64 0, .int .i64 0, .int .i64 0]) 24) fun k1 w1 =>
 al w1 (.cells (#[.slice none 0 0]) 25) fun k2 w2 =>
 al w2 (.cells (#[.int .i64 0]) 3) fun k3 w3 =>
 al w3 (.cells (#[.int .i64 0]) 27) fun k4 w4 =>
 N [.pointer (some ⟨k1, 0, none⟩), .pointer (some ⟨k2, 0, none⟩), .pointer (some ⟨k3, 0, none⟩), .pointer (some ⟨k4, 0, none⟩)] w4
theorem Pa.ok : (chk 43 Pa.ann ((Tryz.f12.body.getD .skip).pl) && draws (drawAll 43) Pa.ann ((Tryz.f12.body.getD .skip).pl)) = true := by kernel_rfl
theorem Pa.eq {e : Env}  {w : World} {N : List Value → World → Prop} {R : World → Prop} {X : List PanicEntry → World → Prop} : Pa.F  w N R X = vc P Pa.ann ((Tryz.f12.body.getD .skip).pl) (pieceQ [2, 3, 4, 5] N R X) e w := by kernel_rfl

/-- a piece of reprise/script.Parse -/
def Pb.ann : Ann := .seq (.reg (.op 0 [] (.op 1 [] (.op 2 [] .nil)))) (.cond (.seq (.reg (.op 0 [] (.op 1 [] (.op 2 [] (.op 3 [] (.op 4 [] .nil)))))) .leaf) .leaf)
def Pb.F (a0 : ByteArray) (b2 : Nat) (b3 : Nat) (b4 : Nat) (b5 : Nat) (w : World) (N : List Value → World → Prop) (R : World → Prop) (X : List PanicEntry → World → Prop) : Prop :=
 cnd (iGt (lenN (ByteArray.size a0)) 262144) (
 st w (⟨b2, 0, none⟩ : Addr) [.int .i64 0, .int .i64 0, .int .i64 0, .slice none 0 0, .int .i64 0, .int .i64 0, .int .i64 0, .int .i64 0] fun w2 =>
 st w2 (⟨b3, 0, none⟩ : Addr) [.slice none 0 0] fun w3 =>
 st w3 (⟨b4, 0, none⟩ : Addr) [.int .i64 0] fun w4 =>
 st w4 (⟨b5, 0, none⟩ : Addr) [.int .i64 6] fun w5 =>
 R w5) (
 N [] w)
theorem Pb.ok : (chk 43 Pb.ann ((Tryz.f12.body.getD .skip).pr.pl) && draws (drawAll 43) Pb.ann ((Tryz.f12.body.getD .skip).pr.pl)) = true := by kernel_rfl
theorem Pb.eq {e : Env} {a0 : ByteArray} {b2 : Nat} {b3 : Nat} {b4 : Nat} {b5 : Nat} {w : World} {N : List Value → World → Prop} {R : World → Prop} {X : List PanicEntry → World → Prop} : Pb.F a0 b2 b3 b4 b5 w N R X = vc P Pb.ann ((Tryz.f12.body.getD .skip).pr.pl) (pieceQ [] N R X) (Env.set (Env.set (Env.set (Env.set (Env.set e 0 (.string a0)) 2 (.pointer (some ⟨b2, 0, none⟩))) 3 (.pointer (some ⟨b3, 0, none⟩))) 4 (.pointer (some ⟨b4, 0, none⟩))) 5 (.pointer (some ⟨b5, 0, none⟩))) w := by kernel_rfl

/-- a piece of reprise/script.Parse -/
def Pc.ann : Ann := .reg (.op 0 [] (.op 1 [] (.op 2 [] (.op 3 [] .nil))))
def Pc.F  (w : World) (N : List Value → World → Prop) (R : World → Prop) (X : List PanicEntry → World → Prop) : Prop :=
 al w (.cells (#[.int .i64 0, .int .i64 0, .int .i64 0, .slice none 0 0, .int .i64 0, .int .i64 0, .int .i64 0, .int .i64 0, .slice none 0 0, .bool false]) 72) fun k1 w1 =>
 al w1 (.cells (#[.pointer none]) 70) fun k2 w2 =>
 st w2 (⟨k2, 0, none⟩ : Addr) [.pointer (some ⟨k1, 0, none⟩)] fun w3 =>
 N [.pointer (some ⟨k2, 0, none⟩)] w3
theorem Pc.ok : (chk 43 Pc.ann ((Tryz.f12.body.getD .skip).pr.pr.pr.pl) && draws (drawAll 43) Pc.ann ((Tryz.f12.body.getD .skip).pr.pr.pr.pl)) = true := by kernel_rfl
theorem Pc.eq {e : Env}  {w : World} {N : List Value → World → Prop} {R : World → Prop} {X : List PanicEntry → World → Prop} : Pc.F  w N R X = vc P Pc.ann ((Tryz.f12.body.getD .skip).pr.pr.pr.pl) (pieceQ [6] N R X) e w := by kernel_rfl

/-- a piece of reprise/script.Parse -/
def Pd.ann : Ann := .reg (.op 0 [] (.op 1 [] .nil))
def Pd.F (a0 : ByteArray) (w : World) (N : List Value → World → Prop) (R : World → Prop) (X : List PanicEntry → World → Prop) : Prop :=
 call P 28 [.string a0, .string (bs [10])] w (fun v1 w1 =>
 N [v1] w1) X
theorem Pd.ok : (chk 43 Pd.ann ((Tryz.f12.body.getD .skip).pr.pr.pr.pr.pl.pl) && draws (drawAll 43) Pd.ann ((Tryz.f12.body.getD .skip).pr.pr.pr.pr.pl.pl)) = true := by kernel_rfl
theorem Pd.eq {e : Env} {a0 : ByteArray} {w : World} {N : List Value → World → Prop} {R : World → Prop} {X : List PanicEntry → World → Prop} : Pd.F a0 w N R X = vc P Pd.ann ((Tryz.f12.body.getD .skip).pr.pr.pr.pr.pl.pl) (pieceQ [16] N R X) (Env.set e 0 (.string a0)) w := by kernel_rfl

/-- a piece of reprise/script.Parse -/
def Pe.ann : Ann := .reg (.op 0 [] (.op 1 [] (.op 2 [] (.op 3 [] (.op 4 [] .nil)))))
def Pe.F (b6 : Nat) (w : World) (N : List Value → World → Prop) (R : World → Prop) (X : List PanicEntry → World → Prop) : Prop :=
 ld w (⟨b6, 0, none⟩ : Addr) fun v1 =>
 asP v1 fun p1 =>
 nn p1 fun d1 =>
 ld w (Addr.add d1 9) fun v2 =>
 asB v2 fun b1 =>
 call P 30 [.bool b1, .int .i64 210] w (fun v3 w1 =>
 tuN 0 v3 (N [] w1)) X
theorem Pe.ok : (chk 43 Pe.ann ((Tryz.f12.body.getD .skip).pr.pr.pr.pr.pr.pl) && draws (drawAll 43) Pe.ann ((Tryz.f12.body.getD .skip).pr.pr.pr.pr.pr.pl)) = true := by kernel_rfl
theorem Pe.eq {e : Env} {b6 : Nat} {w : World} {N : List Value → World → Prop} {R : World → Prop} {X : List PanicEntry → World → Prop} : Pe.F b6 w N R X = vc P Pe.ann ((Tryz.f12.body.getD .skip).pr.pr.pr.pr.pr.pl) (pieceQ [] N R X) (Env.set e 6 (.pointer (some ⟨b6, 0, none⟩))) w := by kernel_rfl

/-- a piece of reprise/script.Parse -/
def Pf.ann : Ann := .seq (.reg (.lt 0 (.lt 4 (.lt 1 (.lt 5 (.lt 2 (.lt 6 (.lt 3 (.lt 7 (.op 8 [4, 7] (.op 9 [] (.op 10 [] (.op 11 [] .nil))))))))))))) .leaf
def Pf.F (b2 : Nat) (b3 : Nat) (b4 : Nat) (b5 : Nat) (b6 : Nat) (w : World) (N : List Value → World → Prop) (R : World → Prop) (X : List PanicEntry → World → Prop) : Prop :=
 ∀ w1, w1 = World.drew w →
 ld w1 (⟨b6, 0, none⟩ : Addr) fun v1 =>
 asP v1 fun p1 =>
 ld w1 (⟨b6, 0, none⟩ : Addr) fun v2 =>
 asP v2 fun p2 =>
 nn p1 fun d1 =>
 nn p2 fun d2 =>
 ld w1 d1 fun v3 =>
 asI .i64 v3 fun n1 =>
 ld w1 (Addr.add d1 1) fun v4 =>
 asI .i64 v4 fun n2 =>
 ld w1 (Addr.add d1 2) fun v5 =>
 asI .i64 v5 fun n3 =>
 ld w1 (Addr.add d1 3) fun v6 =>
 asL v6 fun q1 q1l q1c =>
 ld w1 (Addr.add d1 4) fun v7 =>
 asI .i64 v7 fun n4 =>
 ld w1 (Addr.add d1 5) fun v8 =>
 asI .i64 v8 fun n5 =>
 ld w1 (Addr.add d1 6) fun v9 =>
 asI .i64 v9 fun n6 =>
 ld w1 (Addr.add d1 7) fun v10 =>
 asI .i64 v10 fun n7 =>
 ld w1 (Addr.add d2 8) fun v11 =>
 asL v11 fun q2 q2l q2c =>
 st w1 (⟨b2, 0, none⟩ : Addr) [.int .i64 n1, .int .i64 n2, .int .i64 n3, .slice q1 q1l q1c, .int .i64 n4, .int .i64 n5, .int .i64 n6, .int .i64 n7] fun w2 =>
 World.cell? w2 (⟨b6, 0, none⟩ : Addr) = some (.pointer p2) ∧
 World.cell? w2 (Addr.add d2 8) = some (.slice q2 q2l q2c) ∧
 st w2 (⟨b3, 0, none⟩ : Addr) [.slice q2 q2l q2c] fun w3 =>
 st w3 (⟨b4, 0, none⟩ : Addr) [.int .i64 0] fun w4 =>
 st w4 (⟨b5, 0, none⟩ : Addr) [.int .i64 0] fun w5 =>
 R w5
theorem Pf.ok : (chk 43 Pf.ann ((Tryz.f12.body.getD .skip).pr.pr.pr.pr.pr.pr) && draws (drawAll 43) Pf.ann ((Tryz.f12.body.getD .skip).pr.pr.pr.pr.pr.pr)) = true := by kernel_rfl
theorem Pf.eq {e : Env} {b2 : Nat} {b3 : Nat} {b4 : Nat} {b5 : Nat} {b6 : Nat} {w : World} {N : List Value → World → Prop} {R : World → Prop} {X : List PanicEntry → World → Prop} : Pf.F b2 b3 b4 b5 b6 w N R X = vc P Pf.ann ((Tryz.f12.body.getD .skip).pr.pr.pr.pr.pr.pr) (pieceQ [] N R X) (Env.set (Env.set (Env.set (Env.set (Env.set e 2 (.pointer (some ⟨b2, 0, none⟩))) 3 (.pointer (some ⟨b3, 0, none⟩))) 4 (.pointer (some ⟨b4, 0, none⟩))) 5 (.pointer (some ⟨b5, 0, none⟩))) 6 (.pointer (some ⟨b6, 0, none⟩))) w := by kernel_rfl

/-- a piece of reprise/script.Parse -/
def Pg.ann : Ann := .reg (.op 0 [] .nil)
def Pg.F (a17 : ByteArray) (w : World) (N : List Value → World → Prop) (R : World → Prop) (X : List PanicEntry → World → Prop) : Prop :=
 N [.string a17] w
theorem Pg.ok : (chk 43 Pg.ann ((Tryz.f12.body.getD .skip).pr.pr.pr.pr.pl.pr.pl.pl) && draws (drawAll 43) Pg.ann ((Tryz.f12.body.getD .skip).pr.pr.pr.pr.pl.pr.pl.pl)) = true := by kernel_rfl
theorem Pg.eq {e : Env} {a17 : ByteArray} {w : World} {N : List Value → World → Prop} {R : World → Prop} {X : List PanicEntry → World → Prop} : Pg.F a17 w N R X = vc P Pg.ann ((Tryz.f12.body.getD .skip).pr.pr.pr.pr.pl.pr.pl.pl) (pieceQ [7] N R X) (Env.set e 17 (.string a17)) w := by kernel_rfl

/-- a piece of reprise/script.Parse -/
def Ph.ann : Ann := .blk (.seq (.reg (.op 0 [] (.op 1 [] (.op 2 [] .nil)))) (.seq (.reg (.op 0 [] (.op 1 [] (.op 2 [] (.split 22 (.op 3 [] (.op 4 [] (.op 5 [] (.op 6 [] .nil)))) 125829120 [(26, .leaf (.bool))] .nil))))) (.cond (.reg (.op 0 [] (.op 1 [] (.op 2 [] .nil)))) .leaf)))
def Ph.F (b4 : Nat) (b6 : Nat) (a7 : ByteArray) (w : World) (N : List Value → World → Prop) (R : World → Prop) (X : List PanicEntry → World → Prop) : Prop :=
 ld w (⟨b4, 0, none⟩ : Addr) fun v1 =>
 asI .i64 v1 fun n1 =>
 st w (⟨b4, 0, none⟩ : Addr) [.int .i64 (iAdd .i64 n1 1)] fun w1 =>
 ∀ K1 : List Value → World → Prop, (∀ b1 w2, (∀ _ : Env,
 cnd b1 (
 ld w2 (⟨b6, 0, none⟩ : Addr) fun v2 =>
 asP v2 fun p1 =>
 call P 29 [.pointer p1, .string a7] w2 (fun v3 w3 =>
 tuN 0 v3 (N [] w3)) X) (
 N [] w2)) → K1 [.bool b1] w2) →
 cnd (sNe a7 (bs [])) (
 inB 0 (ByteArray.size a7) ∧
 K1 [.bool (iNe (bt a7 0) 35)] w1) (
 K1 [.bool false] w1)
theorem Ph.ok : (chk 43 Ph.ann ((Tryz.f12.body.getD .skip).pr.pr.pr.pr.pl.pr.pl.pr) && draws (drawAll 43) Ph.ann ((Tryz.f12.body.getD .skip).pr.pr.pr.pr.pl.pr.pl.pr)) = true := by kernel_rfl
theorem Ph.eq {e : Env} {b4 : Nat} {b6 : Nat} {a7 : ByteArray} {w : World} {N : List Value → World → Prop} {R : World → Prop} {X : List PanicEntry → World → Prop} : Ph.F b4 b6 a7 w N R X = vc P Ph.ann ((Tryz.f12.body.getD .skip).pr.pr.pr.pr.pl.pr.pl.pr) (pieceQ [] N R X) (Env.set (Env.set (Env.set e 4 (.pointer (some ⟨b4, 0, none⟩))) 6 (.pointer (some ⟨b6, 0, none⟩))) 7 (.string a7)) w := by kernel_rfl

/-- a piece of reprise/script.Parse$1 -/
def Qa.ann : Ann := .reg (.op 1 [] (.op 2 [] (.op 3 [] (.op 4 [] (.op 5 [] (.op 6 [] (.op 7 [] .nil)))))))
def Qa.F (a6 : Value) (w : World) (N : List Value → World → Prop) (R : World → Prop) (X : List PanicEntry → World → Prop) : Prop :=
 runV P (Instr.typeAssert (a6) 20 68 true) w (fun v1 w1 =>
 tuN 2 v1 (fun v2 v3 => show Prop from
 agN 1 v2 (fun v4 => show Prop from
 asI .i64 v4 fun n1 =>
 asB v3 fun b1 =>
 al w1 (.cells (#[.int .i64 0]) 68) fun k1 w2 =>
 st w2 (⟨k1, 0, none⟩ : Addr) [.int .i64 n1] fun w3 =>
 N [.bool b1, .pointer (some ⟨k1, 0, none⟩)] w3))) X
theorem Qa.ok : (match Qa.ann, ((Tryz.f27.body.getD .skip).pl) with | .reg r, .region _ ops _ => r.chk 14 ops | _, _ => false) = true := by kernel_rfl
theorem Qa.eq {e : Env} {a6 : Value} {w : World} {N : List Value → World → Prop} {R : World → Prop} {X : List PanicEntry → World → Prop} : Qa.F a6 w N R X = vc P Qa.ann ((Tryz.f27.body.getD .skip).pl) (pieceQ [4, 3] N R X) (Env.set e 6 (a6)) w := by kernel_rfl

/-- a piece of reprise/script.Parse$1 -/
def Qb.ann : Ann := .seq (.reg (.op 0 [] .nil)) (.cond (.reg (.lt 0 (.lt 1 (.lt 2 (.op 3 [2] (.op 4 [2] (.op 5 [] .nil))))))) .leaf)
def Qb.F (b0 : Nat) (b1 : Nat) (b2 : Nat) (b3 : Nat) (a4 : Bool) (w : World) (N : List Value → World → Prop) (R : World → Prop) (X : List PanicEntry → World → Prop) : Prop :=
 cnd a4 (
 ∀ w1, w1 = World.drew w →
 ld w1 (⟨b3, 0, none⟩ : Addr) fun v1 =>
 asI .i64 v1 fun n1 =>
 st w1 (⟨b0, 0, none⟩ : Addr) [.int .i64 0, .int .i64 0, .int .i64 0, .slice none 0 0, .int .i64 0, .int .i64 0, .int .i64 0, .int .i64 0] fun w2 =>
 World.cell? w2 (⟨b3, 0, none⟩ : Addr) = some (.int .i64 n1) ∧
 st w2 (⟨b1, 0, none⟩ : Addr) [.slice none 0 0] fun w3 =>
 World.cell? w3 (⟨b3, 0, none⟩ : Addr) = some (.int .i64 n1) ∧
 st w3 (⟨b2, 0, none⟩ : Addr) [.int .i64 n1] fun w4 =>
 N [] w4) (
 N [] w)
theorem Qb.ok : (chk 14 Qb.ann ((Tryz.f27.body.getD .skip).pr) && draws (drawAll 14) Qb.ann ((Tryz.f27.body.getD .skip).pr)) = true := by kernel_rfl
theorem Qb.eq {e : Env} {b0 : Nat} {b1 : Nat} {b2 : Nat} {b3 : Nat} {a4 : Bool} {w : World} {N : List Value → World → Prop} {R : World → Prop} {X : List PanicEntry → World → Prop} : Qb.F b0 b1 b2 b3 a4 w N R X = vc P Qb.ann ((Tryz.f27.body.getD .skip).pr) (pieceQ [] N R X) (Env.set (Env.set (Env.set (Env.set (Env.set e 0 (.pointer (some ⟨b0, 0, none⟩))) 1 (.pointer (some ⟨b1, 0, none⟩))) 2 (.pointer (some ⟨b2, 0, none⟩))) 3 (.pointer (some ⟨b3, 0, none⟩))) 4 (.bool a4)) w := by kernel_rfl

end Go.Proofs.YtgfbkmclekafbaaGreatDoor
