/- Each operation's reading is sound, part 3: 'opvc' against the run. -/
import Derived.Test.YtgfbkmclekafbaaGreatDoorQVc4
set_option linter.unusedVariables false
set_option linter.unusedSimpArgs false
set_option linter.unnecessarySimpa false
namespace Go.Vc
open Go
variable {P : Program}

theorem runV_upon {s : Sem Value} {w : World} {K K' : Value → World → Prop} {X : List PanicEntry → World → Prop} (hK : ∀ v w, K v w → K' v w) (h : runV P s w K X) :
    upon P K' X ((do let v ← s; pure (.value v) : Sem Next).run P w) := by
  unfold runV at h
  rw [run_bind]
  cases hr : s.run P w with
  | ok v w' => rw [hr] at h; exact hK _ _ h
  | halt e w' =>
    rw [hr] at h
    cases e <;> first | exact h | exact h.elim
theorem runU_upon {s : Sem Unit} {w : World} {K : World → Prop} {K' : Value → World → Prop} {X : List PanicEntry → World → Prop} (hK : ∀ w, K w → K' undef w) (h : runU P s w K X) :
    upon P K' X ((do s; pure .skip : Sem Next).run P w) := by
  unfold runU at h
  rw [run_bind]
  cases hr : s.run P w with
  | ok v w' => rw [hr] at h; exact hK _ h
  | halt e w' =>
    rw [hr] at h
    cases e <;> first | exact h | exact h.elim
theorem upon_mono {K K' : Value → World → Prop} {X X' : List PanicEntry → World → Prop} (hK : ∀ v w, K v w → K' v w) (hX : ∀ v w, X v w → X' v w) {r : Result Next} (h : upon P K X r) : upon P K' X' r := by
  cases r with
  | ok n w =>
    cases n <;> first | exact hK _ _ h | exact Calls.mono h (fun e w' he => by cases e <;> first | exact hK _ _ he | exact hX _ _ he | exact he) | exact RoundIn.mono h (fun e w' he => by cases e <;> first | exact hK _ _ he | exact hX _ _ he | exact he) | exact h.elim
  | halt x w => cases x <;> first | exact hX _ _ h | exact h.elim
theorem upon_ok {s : Sem Value} {w w' : World} {v : Value} {K : Value → World → Prop} {X : List PanicEntry → World → Prop} (hr : s.run P w = .ok v w') (h : K v w') :
    upon P K X ((do let v ← s; pure (.value v) : Sem Next).run P w) := by
  rw [run_bind, hr]; exact h
theorem upon_okU {s : Sem Unit} {w w' : World} {K : Value → World → Prop} {X : List PanicEntry → World → Prop} (hr : s.run P w = .ok () w') (h : K undef w') :
    upon P K X ((do s; pure .skip : Sem Next).run P w) := by
  rw [run_bind, hr]; exact h

theorem evs_eq (e : Env) : ∀ xs : List Operand, evs e xs = xs.map e.ev
  | [] => rfl
  | x :: r => by simp [evs, evs_eq e r]
theorem evs_toArray (e : Env) (xs : Array Operand) : (evs e xs.toList).toArray = xs.map e.ev := by
  rw [evs_eq]; apply Array.ext'; simp
theorem parts_eq (e : Env) : ∀ xs : List (Nat × Operand), parts e xs = xs.map fun (i, x) => (i, e.ev x)
  | [] => rfl
  | x :: r => by simp [parts, parts_eq e r]
theorem parts_toArray (e : Env) (xs : Array (Nat × Operand)) : (parts e xs.toList).toArray = xs.map fun (i, x) => (i, e.ev x) := by
  rw [parts_eq]; apply Array.ext'; simp
theorem mapO_eq (e : Env) (x : Option Operand) : mapO e x = x.map e.ev := by cases x <;> rfl

theorem run_bound {n : Int} {k : IntKind} {y : Nat} {c : BoundsCode} {w : World} (h1 : 0 ≤ n) (h2 : n ≤ (y : Int)) : (Instr.sliceBound (.int k n) y c).run P w = .ok n.toNat w := by
  simp [Instr.sliceBound, asIntOf, run_bind, Sem.run, pure, h1, h2]
theorem run_cutL {h : Nat} {lo : Option Value} {K : Nat → Nat → Prop} {w : World} {c : BoundsCode} (hh : cutL h lo K) :
    ∃ l : Nat, ((match lo with | some v => Instr.sliceBound v h c | none => pure 0) : Sem Nat).run P w = .ok l w ∧ K l h ∧ (lo = none → l = 0) := by
  cases lo with
  | none => exact ⟨0, rfl, hh, fun _ => rfl⟩
  | some v =>
    cases v <;> simp only [cutL] at hh
    case int k n => obtain ⟨⟨h1, h2⟩, h3⟩ := hh; exact ⟨n.toNat, run_bound h1 h2, h3, by simp⟩
theorem run_cutB {b : Bool} {len cap : Nat} {lo hi : Option Value} {K : Nat → Nat → Prop} {w : World} (h : cutB len cap lo hi K) :
    ∃ l h' : Nat, (Instr.sliceBounds b len cap lo hi none).run P w = .ok (l, h', cap) w ∧ K l h' ∧ (lo = none → l = 0) := by
  cases hi with
  | none =>
    obtain ⟨l, hr, hK, h0⟩ := run_cutL (P := P) (w := w) (c := .sliceB) h
    refine ⟨l, len, ?_, hK, h0⟩
    simp only [Instr.sliceBounds, run_bind, pure, Sem.run] at hr ⊢
    cases lo <;> simp_all [Sem.run, run_bind]
  | some v =>
    cases v <;> simp only [cutB] at h
    case int k n =>
    obtain ⟨⟨hb1, hb2⟩, h⟩ := h
    obtain ⟨l, hr, hK, h0⟩ := run_cutL (P := P) (w := w) (c := .sliceB) h
    refine ⟨l, n.toNat, ?_, hK, h0⟩
    simp only [Instr.sliceBounds, run_bind, pure, Sem.run] at hr ⊢
    rw [run_bound hb1 hb2]
    cases lo <;> simp_all [Sem.run, run_bind]

theorem run_newRow {w : World} (t : TypeId) (cs : Array Value) : (newRow t cs).run P w = .ok ⟨w.heap.size, 0, none⟩ (w.alloc (.cells cs t)) := by
  unfold newRow newObj; rw [run_bind]; rfl

theorem run_zeroValue' {w : World} {t : TypeId} {i : TypeInfo} {z : Value} (hi : P.info? t = some i) (hz : i.zero = some z) : (zeroValue t).run P w = .ok z w := by
  simp [zeroValue, typeInfo, go_sem, hi, hz]

theorem agg_und {t : TypeId} (h : isAggT P t = true) : ∃ d, P.underlying t = some d := by
  unfold isAggT at h
  cases hu : P.underlying t with
  | none => rw [hu] at h; simp at h
  | some d => exact ⟨d, rfl⟩
theorem run_part {w : World} {t : TypeId} {cs : Array Value} {off : Nat} {K : Value → Prop} (h : partV P t cs off K) : ∃ v, (part t cs off).run P w = .ok v w ∧ K v := by
  unfold partV at h
  unfold part
  split at h
  · rename_i i _ _
    have h1 : isAggT P t = true := by assumption
    have h2 : P.info? t = some i := by assumption
    obtain ⟨d, hu⟩ := agg_und h1
    refine ⟨_, ?_, asT_el h⟩
    rw [run_bind, run_isAgg hu, h1]
    simp only [if_true]
    rw [run_bind, run_sizeOf' h2]
    rfl
  · have h1 : isAggT P t = false := by assumption
    split at h
    · rename_i d v hu hv
      refine ⟨v, ?_, asT_el h⟩
      rw [run_bind, run_isAgg hu, h1]
      simp [hv, Sem.run, pure]
    · exact h.elim
  · exact h.elim

theorem bt_eq {s : ByteArray} {n : Int} (h0 : 0 ≤ n) (h1 : n < (s.size : Int)) : s[n.toNat]? = some (s.data.toList.getD n.toNat 0) := by
  have hlt : n.toNat < s.size := by omega
  have hl : n.toNat < s.data.toList.length := by simpa using hlt
  rw [List.getD_eq_getElem?_getD, List.getElem?_eq_getElem hl]
  simp [getElem?_pos, hlt]
  rfl

theorem run_eqIn_ptr (d : Nat) {t el : TypeId} (hu : P.underlying t = some (.pointer el)) (p : Option Addr) (w : World) : (Op.equalIn (d + 1) t (.pointer p) (.pointer none)).run P w = .ok p.isNone w := by
  cases p <;> simp [Op.equalIn, run_underlying hu]
theorem run_eqIn_sl (d : Nat) {t el : TypeId} (hu : P.underlying t = some (.slice el)) (p : Option Addr) (l c l' c' : Nat) (w : World) : (Op.equalIn (d + 1) t (.slice p l c) (.slice none l' c')).run P w = .ok p.isNone w := by
  cases p <;> simp [Op.equalIn, run_underlying hu]
theorem run_eqIn_map (d : Nat) {t k el : TypeId} (hu : P.underlying t = some (.map k el)) (p : Option Nat) (w : World) : (Op.equalIn (d + 1) t (.map p) (.map none)).run P w = .ok p.isNone w := by
  cases p <;> simp [Op.equalIn, run_underlying hu]
theorem run_eqIn_if (d : Nat) {t : TypeId} {ms : Array (String × TypeId)} (hu : P.underlying t = some (.interface ms)) (v : Value) (hv : ifOk v = true) (w : World) : (Op.equalIn (d + 1) t v .nilIface).run P w = .ok (nilI v) w := by
  cases v <;> simp [ifOk] at hv <;> simp [Op.equalIn, run_underlying hu, nilI]
theorem run_eql {t : TypeId} {u v : Value} {b : Bool} {w : World} (hb : binOp .eql t u v = (do pure (.bool (← Op.equal t u v)))) (h : (Op.equalIn 10000 t u v).run P w = .ok b w) : (binOp .eql t u v).run P w = .ok (.bool b) w := by
  rw [hb]; unfold Op.equal Op.maxDepth; rw [run_bind, h]; rfl
theorem run_neq {t : TypeId} {u v : Value} {b : Bool} {w : World} (hb : binOp .neq t u v = (do pure (.bool (!(← Op.equal t u v))))) (h : (Op.equalIn 10000 t u v).run P w = .ok b w) : (binOp .neq t u v).run P w = .ok (.bool (!b)) w := by
  rw [hb]; unfold Op.equal Op.maxDepth; rw [run_bind, h]; rfl
theorem run_then {x : Sem Unit} {y : Sem Value} {w : World} (h : x = pure ()) : (do x; y : Sem Value).run P w = y.run P w := by
  rw [h]; rfl

theorem repsFrom_eq {z : List Value} (hz : z ≠ []) : ∀ (n j : Nat), j ≤ z.length → repsFrom z (z.drop j) n = (List.range n).map fun i => z[(j + i) % z.length]!
  | 0, j, _ => by simp [repsFrom]
  | n + 1, j, hj => by
    rw [List.range_succ_eq_map, List.map_cons, List.map_map]
    by_cases h : j < z.length
    · rw [List.drop_eq_getElem_cons h]
      simp only [repsFrom]
      rw [repsFrom_eq hz n (j + 1) h]
      congr 1
      · simp [Nat.mod_eq_of_lt h, h]
      · apply List.map_congr_left
        intro i _
        simp only [Function.comp]
        rw [show j + 1 + i = j + i.succ by omega]
    · have hj' : j = z.length := by omega
      subst hj'
      rw [List.drop_length]
      cases hzc : z with
      | nil => exact absurd hzc hz
      | cons v r =>
        simp only [repsFrom]
        have ih := repsFrom_eq hz n 1 (by rw [hzc]; simp)
        rw [hzc] at ih
        simp only [List.drop_one, List.tail_cons] at ih
        rw [ih]
        congr 1
        · simp
        · apply List.map_congr_left
          intro i _
          simp only [Function.comp]
          rw [show (v :: r).length + i.succ = (1 + i) + (v :: r).length by omega, Nat.add_mod_right]
theorem reps_eq {z : Array Value} (hz : z.toList ≠ []) {n : Nat} : (Array.range n).map (fun i => z[i % z.size]!) = (reps z.toList n).toArray := by
  apply Array.ext'
  rw [Array.toList_map, Array.toList_range]
  have := repsFrom_eq hz n 0 (by omega)
  simp only [List.drop_zero, Nat.zero_add] at this
  unfold reps
  rw [this]
  apply List.map_congr_left
  intro a _
  simp only [Array.length_toList]
  rw [getElem!_def, getElem!_def, Array.getElem?_toList]

theorem run_nil {neg : Bool} {t : TypeId} {x y : Operand} {u v : Value} {w : World} {K : Value → World → Prop} (hy : nilC y = true) (hv : ∀ e : Env, e.ev y = v → True) (hyv : ∀ c, y = .const c → v = c) (h : vcNil P t neg u v w K) :
    ∃ b, (∀ w', (do eqGuard (bif neg then .neq else .eql) t x y u v; binOp (bif neg then .neq else .eql) t u v : Sem Value).run P w' = .ok (.bool b) w') ∧ K (.bool b) w := by
  unfold vcNil at h
  split at h
  · split at h
    · rename_i hu
      have h1 := h.1
      have hc : ∃ c, y = .const c := by
        cases y <;> simp [nilC] at hy
        exact ⟨_, rfl⟩
      obtain ⟨c, rfl⟩ := hc
      refine ⟨_, fun w' => ?_, h.2⟩
      cases neg
      · refine (run_then ?_).trans (run_eql ?_ (run_eqIn_if 9999 hu u h1 w'))
        · cases u <;> simp [ifOk] at h1 <;> first | exact eqGuard_at_iface .. | exact eqGuard_nil_constR ..
        · cases u <;> simp [ifOk] at h1 <;> rfl
      · refine (run_then ?_).trans (run_neq ?_ (run_eqIn_if 9999 hu u h1 w'))
        · cases u <;> simp [ifOk] at h1 <;> first | exact eqGuard_at_iface .. | exact eqGuard_nil_constR ..
        · cases u <;> simp [ifOk] at h1 <;> rfl
    · exact h.elim
  · split at h
    · rename_i hu
      refine ⟨_, fun w' => ?_, h⟩
      cases neg
      · exact (run_then (eqGuard_at_pointer ..)).trans (run_eql rfl (run_eqIn_ptr 9999 hu _ w'))
      · exact (run_then (eqGuard_at_pointer ..)).trans (run_neq rfl (run_eqIn_ptr 9999 hu _ w'))
    · exact h.elim
  · split at h
    · rename_i hu
      refine ⟨_, fun w' => ?_, h⟩
      cases neg
      · exact (run_then (eqGuard_at_slice ..)).trans (run_eql rfl (run_eqIn_sl 9999 hu _ _ _ _ _ w'))
      · exact (run_then (eqGuard_at_slice ..)).trans (run_neq rfl (run_eqIn_sl 9999 hu _ _ _ _ _ w'))
    · exact h.elim
  · split at h
    · rename_i hu
      refine ⟨_, fun w' => ?_, h⟩
      cases neg
      · exact (run_then (eqGuard_at_map ..)).trans (run_eql rfl (run_eqIn_map 9999 hu _ w'))
      · exact (run_then (eqGuard_at_map ..)).trans (run_neq rfl (run_eqIn_map 9999 hu _ w'))
    · exact h.elim
  · exact h.elim

theorem vcDef_upon {ty : TypeId} {op : BinOp} {t : TypeId} {x y : Operand} {u v : Value} {w : World} {K : Value → World → Prop} {X : List PanicEntry → World → Prop} (h : vcDef P ty op t x y u v w K X) :
    upon P K X ((do let r ← (do eqGuard op t x y u v; binOp op t u v : Sem Value); pure (.value r) : Sem Next).run P w) := runV_upon (fun _ _ h => asT_el h) h

theorem eqG_int {op : BinOp} {t : TypeId} {x y : Operand} {k : IntKind} {a : Int} {v : Value} {w : World} : (do eqGuard op t x y (.int k a) v; binOp op t (.int k a) v : Sem Value).run P w = (binOp op t (.int k a) v).run P w := run_then (eqGuard_at_int ..)
theorem eqG_str {op : BinOp} {t : TypeId} {x y : Operand} {a : ByteArray} {v : Value} {w : World} : (do eqGuard op t x y (.string a) v; binOp op t (.string a) v : Sem Value).run P w = (binOp op t (.string a) v).run P w := run_then (eqGuard_at_string ..)
theorem vcBin_upon {ty : TypeId} {op : BinOp} {t : TypeId} {x y : Operand} {e : Env} {w : World} {K : Value → World → Prop} {X : List PanicEntry → World → Prop} (h : vcBin P ty op t x y (e.ev x) (e.ev y) w K X) :
    upon P K X ((do let r ← (do eqGuard op t x y (e.ev x) (e.ev y); binOp op t (e.ev x) (e.ev y) : Sem Value); pure (.value r) : Sem Next).run P w) := by
  have hyv : ∀ c, y = .const c → e.ev y = c := fun c hc => by rw [hc]; rfl
  generalize e.ev x = u at *
  generalize e.ev y = v at *
  unfold vcBin at h
  split at h
  · rename_i hy
    split at h
    · obtain ⟨b, hr, hK⟩ := run_nil (neg := false) (x := x) hy (fun _ _ => trivial) hyv h
      exact upon_ok (hr w) hK
    · obtain ⟨b, hr, hK⟩ := run_nil (neg := true) (x := x) hy (fun _ _ => trivial) hyv h
      exact upon_ok (hr w) hK
    · exact h.elim
  · split at h
    rotate_right
    · exact vcDef_upon h
    · split at h
      rotate_right
      · exact vcDef_upon h
      rename_i k a k' b
      cases hd : decide (k = k') <;> rw [hd] at h
      · simp only at h
        split at h
        · obtain ⟨h1, h⟩ := h
          unfold nng at h1
          refine upon_ok (w' := w) (eqG_int.trans ?_) h
          rw [binOp_shl]
          simp [Op.shift, run_bind, Sem.run, pure, Int.not_lt.2 h1, iShl]
        · obtain ⟨h1, h⟩ := h
          unfold nng at h1
          refine upon_ok (w' := w) (eqG_int.trans ?_) h
          rw [binOp_shr]
          simp [Op.shift, run_bind, Sem.run, pure, Int.not_lt.2 h1, iShr]
        · exact h.elim
      · simp at hd; subst hd
        simp only at h
        split at h
        · exact upon_ok (w' := w) (eqG_int.trans (by rw [binOp_add]; rfl)) h
        · exact upon_ok (w' := w) (eqG_int.trans (by rw [binOp_sub]; rfl)) h
        · exact upon_ok (w' := w) (eqG_int.trans (by rw [binOp_mul]; rfl)) h
        · obtain ⟨h1, h⟩ := h
          unfold nz at h1
          refine upon_ok (w' := w) (eqG_int.trans ?_) h
          rw [binOp_quo]
          simp [Op.intDiv, run_bind, Sem.run, pure, h1, iQuo]
        · obtain ⟨h1, h⟩ := h
          unfold nz at h1
          refine upon_ok (w' := w) (eqG_int.trans ?_) h
          rw [binOp_rem]
          simp [Op.intDiv, run_bind, Sem.run, pure, h1, iRem]
        · exact upon_ok (w' := w) (eqG_int.trans (by rw [binOp_and]; rfl)) h
        · exact upon_ok (w' := w) (eqG_int.trans (by rw [binOp_or]; rfl)) h
        · exact upon_ok (w' := w) (eqG_int.trans (by rw [binOp_xor]; rfl)) h
        · exact upon_ok (w' := w) (eqG_int.trans (by rw [binOp_andNot]; rfl)) h
        · obtain ⟨h1, h⟩ := h
          unfold nng at h1
          refine upon_ok (w' := w) (eqG_int.trans ?_) h
          rw [binOp_shl]
          simp [Op.shift, run_bind, Sem.run, pure, Int.not_lt.2 h1, iShl]
        · obtain ⟨h1, h⟩ := h
          unfold nng at h1
          refine upon_ok (w' := w) (eqG_int.trans ?_) h
          rw [binOp_shr]
          simp [Op.shift, run_bind, Sem.run, pure, Int.not_lt.2 h1, iShr]
        · exact upon_ok (w' := w) (eqG_int.trans (by rw [binOp_eql]; rfl)) h
        · exact upon_ok (w' := w) (eqG_int.trans (by rw [binOp_neq]; rfl)) h
        · exact upon_ok (w' := w) (eqG_int.trans (by rw [binOp_lss]; rfl)) h
        · exact upon_ok (w' := w) (eqG_int.trans (by rw [binOp_leq]; rfl)) h
        · exact upon_ok (w' := w) (eqG_int.trans (by rw [binOp_gtr]; rfl)) h
        · exact upon_ok (w' := w) (eqG_int.trans (by rw [binOp_geq]; rfl)) h
    · split at h
      rotate_right
      · exact vcDef_upon h
      rename_i a b
      split at h
      · obtain ⟨h1, h⟩ := h
        unfold catOk at h1
        refine upon_ok (w' := w) (eqG_str.trans ?_) h
        have h1 : ¬ ((a.size + b.size : Nat) : Int) > IntKind.i64.max := by
          rw [show IntKind.i64.max = 9223372036854775807 from rfl]; omega
        simp only [binOp, Op.stringOp, run_bind, Sem.run, pure, h1, if_false]
        rfl
      · exact upon_ok (w' := w) (eqG_str.trans rfl) h
      · exact upon_ok (w' := w) (eqG_str.trans rfl) h
      · exact upon_ok (w' := w) (eqG_str.trans rfl) h
      · exact upon_ok (w' := w) (eqG_str.trans rfl) h
      · exact upon_ok (w' := w) (eqG_str.trans rfl) h
      · exact upon_ok (w' := w) (eqG_str.trans rfl) h
      · exact h.elim

theorem fillV_el {place : Nat → Option (Nat × Nat × Bool)} {place' : Nat → Option (Nat × Nat)} (hp : ∀ i o n b, place i = some (o, n, b) → place' i = some (o, n)) :
    ∀ {ps : List (Nat × Value)} {cs : List Value} {K : List Value → Prop}, fillV place cs ps K → ∃ cs', Instr.fill place' cs.toArray ps = some cs'.toArray ∧ K cs'
  | [], cs, K, h => ⟨cs, rfl, h⟩
  | (i, v) :: r, cs, K, h => by
    have hset : ∀ (l : List Value) (o : Nat) (cs : List Value) (j : Nat), (l.zipIdx j).foldl (fun (cs : Array Value) (x : Value × Nat) => cs.setIfInBounds (o + x.2) x.1) cs.toArray = (setFrom cs (o + j) l).toArray := by
      intro l o
      induction l with
      | nil => intro cs j; rfl
      | cons a l ih =>
        intro cs j
        simp only [List.zipIdx_cons, List.foldl_cons, setFrom]
        have := ih (cs.set (o + j) a) (j + 1)
        rw [show o + (j + 1) = o + j + 1 by omega] at this
        rw [← this]
        simp
    simp only [fillV] at h
    split at h
    · rename_i o n hpl
      split at h
      · rename_i h1 h2
        have h1 := Nat.eq_of_beq_eq_true h1
        have h2 := Nat.le_of_ble_eq_true h2
        obtain ⟨cs', hf, hK⟩ := fillV_el hp h
        refine ⟨cs', ?_, hK⟩
        simp only [Instr.fill, hp _ _ _ _ hpl]
        have hc : ¬ (v.cells.size ≠ n || o + v.cells.size > cs.toArray.size) = true := by
          simp [h1]; rw [← h1]; omega
        rw [if_neg hc, ← hf]
        congr 1
        have := hset v.cells.toList o cs 0
        simp only [Nat.add_zero] at this
        rw [← this, ← Array.foldl_toList, Array.toList_zipIdx]
      · exact h.elim
    · rename_i o n hpl
      split at h
      · rename_i h1 h2
        have h1 := Nat.eq_of_beq_eq_true h1
        have h2 := Nat.le_of_ble_eq_true h2
        simp only [oc] at h
        split at h
        · rename_i hv
          obtain ⟨cs', hf, hK⟩ := fillV_el hp h
          refine ⟨cs', ?_, hK⟩
          have hvc : v.cells = #[v] := by cases v <;> first | rfl | (simp [Value.oneCell'] at hv)
          simp only [Instr.fill, hp _ _ _ _ hpl, hvc]
          have hc : ¬ ((#[v] : Array Value).size ≠ n || o + (#[v] : Array Value).size > cs.toArray.size) = true := by
            simp [h1]; omega
          rw [if_neg hc, ← hf]
          simp
        · exact h.elim
      · exact h.elim
    · exact h.elim
theorem mapM_sizes {w : World} : ∀ (fs : List Field), (∀ f ∈ fs, ∃ i, P.info? f.type = some i) → ∃ ps : List (Nat × Nat), (fs.mapM (fun (f : Field) => do pure (f.offset, ← sizeOf f.type) : Field → Sem (Nat × Nat))).run P w = .ok ps w ∧
    ∀ i : Nat, ps[i]? = (fs[i]?).bind fun (f : Field) => (P.info? f.type).map fun inf => (f.offset, inf.size)
  | [], _ => ⟨[], rfl, by simp⟩
  | f :: r, h => by
    obtain ⟨i, hi⟩ := h f (by simp)
    obtain ⟨ps, hr, hp⟩ := mapM_sizes r (fun f hf => h f (by simp [hf]))
    refine ⟨(f.offset, i.size) :: ps, ?_, ?_⟩
    · rw [List.mapM_cons, run_bind, run_bind, run_sizeOf' hi]
      simp only [pure, Sem.run]
      rw [run_bind]
      simp only [pure] at hr
      rw [hr]
      rfl
    · intro j
      cases j with
      | zero => simp [hi]
      | succ j => simpa using hp j
theorem run_lenS {w : World} {ts : Array TypeId} {t : TypeId} {s : ByteArray} (hu : (ts[0]?).bind P.underlying = some .string) : (Builtin.len_ ts t #[.string s]).run P w = .ok (.int .i64 (lenN s.size)) w := by
  cases ht : ts[0]? with
  | none => rw [ht] at hu; simp at hu
  | some t0 =>
    rw [ht] at hu
    simp only [Option.bind_some] at hu
    unfold Builtin.len_
    have h0 : (#[Value.string s] : Array Value)[0]? = some (Value.string s) := rfl
    simp only [ht, h0]
    rw [run_bind, run_underlying hu]
    rfl
theorem run_lenL {w : World} {ts : Array TypeId} {t e : TypeId} {a : Option Addr} {l c : Nat} (hu : (ts[0]?).bind P.underlying = some (.slice e)) : (Builtin.len_ ts t #[.slice a l c]).run P w = .ok (.int .i64 (lenN l)) w := by
  cases ht : ts[0]? with
  | none => rw [ht] at hu; simp at hu
  | some t0 =>
    rw [ht] at hu
    simp only [Option.bind_some] at hu
    unfold Builtin.len_
    have h0 : (#[Value.slice a l c] : Array Value)[0]? = some (Value.slice a l c) := rfl
    simp only [ht, h0]
    rw [run_bind, run_underlying hu]
    rfl
theorem run_capL {w : World} {ts : Array TypeId} {t e : TypeId} {a : Option Addr} {l c : Nat} (hu : (ts[0]?).bind P.underlying = some (.slice e)) : (Builtin.cap_ ts t #[.slice a l c]).run P w = .ok (.int .i64 (lenN c)) w := by
  cases ht : ts[0]? with
  | none => rw [ht] at hu; simp at hu
  | some t0 =>
    rw [ht] at hu
    simp only [Option.bind_some] at hu
    unfold Builtin.cap_
    have h0 : (#[Value.slice a l c] : Array Value)[0]? = some (Value.slice a l c) := rfl
    simp only [ht, h0]
    rw [run_bind, run_underlying hu]
    rfl
/-- no function of the program is the one whose calls the model answers by itself -/
def Plain (P : Program) : Prop := ∀ (f : FuncId) (fn : Func), P.funcs[f]? = some fn → (fn.name == "runtime.NumGoroutine") = false

theorem run_indexAt_ok {w : World} {t : TypeId} {x : Value} {k : IntKind} {n : Int} {a : Addr} {len : Nat} {el : TypeId} {inf : TypeInfo} {d : TypeDesc} (hu : P.underlying t = some d) (hi : P.info? el = some inf)
    (h : (d = .slice el ∧ ∃ c, x = .slice (some a) len c) ∨ (d = .array len el ∧ x = .pointer (some a))) (h1 : 0 ≤ n) (h2 : n < (len : Int)) :
    (Instr.indexAt t x (.int k n)).run P w = .ok (.pointer (some (a.add (n.toNat * inf.size)))) w := by
  rcases h with ⟨rfl, c, rfl⟩ | ⟨rfl, rfl⟩ <;>
    simp [Instr.indexAt, asIntOf, Instr.sureAddr, run_bind, run_underlying hu, Sem.run, pure, h1, h2, run_sizeOf' hi]

theorem slA_none {a : Option Addr} {c sz : Nat} : slA a 0 c sz = a := by
  unfold slA
  split
  · rfl
  · cases a <;> simp [Addr.add]

set_option maxHeartbeats 2000000 in
theorem opvc_upon (hP : Plain P) {o : Oper} {e : Env} {w : World} {K : Value → World → Prop} {X : List PanicEntry → World → Prop} (h : opvc P o e w K X) :
    upon P K X ((execOp e.ev o).run P w) := by
  obtain ⟨dst, op, type, pos, after, guard⟩ := o
  cases op <;> simp only [opvc] at h <;> simp only [execOp]
  case move x => exact h
  case assign x => exact h
  case pick c a b =>
    obtain ⟨t, ht, h⟩ := asB_el h
    rw [ht]
    cases t <;> exact h
  case alloc t =>
    split at h
    · rename_i i hi
      split at h
      · rename_i z hz
        refine upon_ok (w' := w.alloc (.cells z.cells t)) ?_ (h _ _ rfl rfl)
        simp only [Instr.alloc, run_bind, run_zeroValue' hi hz, newVar, run_newRow]
        rfl
      · exact h.elim
    · exact h.elim
  case box t x =>
    split at h
    · refine upon_ok ?_ (h _ _ rfl rfl)
      simp only [Instr.box, run_bind, newVar, run_newRow]
      rfl
    · simp only [oc] at h
      split at h
      · rename_i hv
        refine upon_ok ?_ (h _ _ rfl rfl)
        have hvc : (e.ev x).cells = #[e.ev x] := by
          generalize e.ev x = v at *
          cases v <;> first | rfl | (simp [Value.oneCell'] at hv)
        simp only [Instr.box, run_bind, newVar, run_newRow, hvc]
        rfl
      · exact h.elim
  case build t ps =>
    split at h
    · rename_i fs i hu hi
      split at h
      · rename_i z hz
        split at h
        · rename_i hal
          have hall : ∀ f ∈ fs.toList, ∃ i, P.info? f.type = some i := fun f hf => Option.isSome_iff_exists.1 (List.all_eq_true.1 hal f hf)
          obtain ⟨pl, hr, hp⟩ := mapM_sizes (P := P) (w := w) fs.toList hall
          obtain ⟨cs, hf, hK⟩ := fillV_el (place' := fun j => pl.toArray[j]?) (by
            intro j o n b hpl
            unfold fldAt at hpl
            simp only [List.getElem?_toArray]
            rw [hp j]
            split at hpl
            · rename_i f hf
              split at hpl
              · rename_i inf hinf
                simp only [Option.some.injEq, Prod.mk.injEq] at hpl
                simp [hf, hinf, hpl.1, hpl.2.1]
              · simp at hpl
            · simp at hpl) h
          refine upon_ok (w' := w) ?_ hK
          have hm : (fs.mapM (fun (f : Field) => do pure (f.offset, ← sizeOf f.type) : Field → Sem (Nat × Nat))).run P w = .ok pl.toArray w := by
            rw [Array.mapM_eq_mapM_toList, ← bind_pure_comp, run_bind, hr]; rfl
          rw [parts_eq] at hf
          unfold Instr.build
          rw [run_bind, run_zeroValue' hi hz]
          simp only []
          rw [run_bind, run_underlying hu]
          simp only []
          rw [run_bind, hm]
          simp only [Array.toList_map]
          have hf' : Instr.fill (fun x => pl.toArray[x]?) z.cells (List.map (fun (x : Nat × Operand) => (x.1, e.ev x.2)) ps.toList) = some cs.toArray := by simpa using hf
          rw [hf']
          rfl
        · exact h.elim
      · exact h.elim
    · exact h
  case buildSlice t n ps =>
    split at h
    · rename_i el hu
      split at h
      · rename_i i hi
        split at h
        · rename_i z hz hn
          split at h
          · exact h.elim
          · rename_i hsz
            split at h
            · rename_i cs hfl
              refine upon_ok (w' := w.alloc (.cells cs el)) ?_ (h _ _ rfl rfl)
              have hn' : ¬ n * i.size > 2 ^ 24 := by have := Nat.le_of_ble_eq_true hn; omega
              rw [parts_eq] at hfl
              simp only [Instr.buildSlice, run_bind, run_underlying hu, run_sizeOf' hi, hn', if_false]
              by_cases h0 : n * i.size = 0
              · rw [h0] at hfl ⊢
                simp only [if_true]
                rw [run_bind]
                simp only [pure, Sem.run]
                have hr : ((Array.range 0).map fun x => (#[] : Array Value)[x % (#[] : Array Value).size]!) = (reps z.cells.toList 0).toArray := by simp [reps, repsFrom]
                rw [hr, Array.toList_map, hfl]
                simp only [run_bind, run_newRow]
                rfl
              · simp only [h0, if_false]
                simp only [run_bind, run_zeroValue' hi hz, Sem.run, pure]
                have hzz : z.cells.toList ≠ [] := by
                  intro hh
                  have : z.cells.size = 0 := by simpa using congrArg List.length hh
                  have h2 := Nat.eq_of_beq_eq_true hsz
                  rw [this] at h2
                  apply h0
                  rw [← h2]; rfl
                rw [reps_eq hzz, Array.toList_map, hfl]
                simp only [run_bind, run_newRow]
                rfl
            · exact h.elim
        · exact h.elim
      · exact h.elim
    · exact h.elim
  case load t x =>
    split at h
    · rename_i a l i hx ht hi
      obtain ⟨v, hv, h⟩ := ld_el h
      obtain ⟨h1, d, h2⟩ := tySh_leaf ht
      refine upon_ok (w' := w) ?_ (asLeaf_el h)
      rw [hx]
      simp only [Instr.loadAt, Instr.sureAddr, run_bind, pure, Sem.run]
      exact run_loadVar_leaf h2 h1 hv
    · rename_i a ls i hx ht hi
      split at h
      · rename_i hn
        obtain ⟨vs, hl, hc, h⟩ := ldLeaves_el h
        obtain ⟨h1, d, h2⟩ := tySh_agg ht
        refine upon_ok (w' := w) ?_ h
        rw [hx]
        simp only [Instr.loadAt, Instr.sureAddr, run_bind, pure, Sem.run]
        exact run_loadVar_agg h2 h1 hi (by rw [hl]; exact (Nat.eq_of_beq_eq_true hn).symm) (by simpa using hc)
      · exact h.elim
    · exact h.elim
  case store t x y =>
    split at h
    · rename_i a i hx hi
      split at h
      · split at h
        · rename_i hn
          obtain ⟨h1, h2, h3⟩ := ocAll_el h
          refine upon_okU (w' := setAll w a 0 (e.ev y).cells.toList) ?_ (h3 _ rfl)
          rw [hx]
          simp only [Instr.storeAt, Instr.sureAddr, run_bind, pure, Sem.run]
          exact run_storeVar hi (Nat.eq_of_beq_eq_true hn) h1 h2
        · exact h.elim
      · split at h
        · rename_i hn
          simp only [oc] at h
          split at h
          · rename_i hv
            have hvc : (e.ev y).cells = #[e.ev y] := by
              generalize e.ev y = v at *
              cases v <;> first | rfl | (simp [Value.oneCell'] at hv)
            obtain ⟨h2, h3⟩ := h
            refine upon_okU (w' := setAll w a 0 [e.ev y]) ?_ (h3 _ rfl)
            rw [hx]
            simp only [Instr.storeAt, Instr.sureAddr, run_bind, pure, Sem.run]
            have := run_storeVar (w := w) (a := a) (v := e.ev y) hi (by rw [hvc]; exact (Nat.eq_of_beq_eq_true hn).symm) (by rw [hvc]; simpa using hv) (by rw [hvc]; exact h2)
            rw [hvc] at this
            exact this
          · exact h.elim
        · exact h.elim
    · exact h.elim
  case nilCheck x =>
    split at h
    · rename_i p hx
      obtain ⟨a, rfl, h⟩ := nn_el h
      rw [hx]
      exact h
    · exact h
  case binOp op t x y u => exact vcBin_upon h
  case unOp op t x =>
    cases op <;> simp only at h
    case neg =>
      split at h
      · rename_i k n hx
        rw [hx]
        exact upon_ok (w' := w) rfl h
      · exact h
    all_goals exact h
  case fieldAddr s x f =>
    split at h
    · rename_i fs a hu hx
      split at h
      · rename_i fd hf
        split at h
        · rename_i i hi
          split at h
          · exact h.elim
          · rename_i hz
            rw [hx]
            refine upon_ok (w' := w) ?_ h
            have hz' : i.size ≠ 0 := fun hh => by rw [hh] at hz; simp at hz
            simp only [Instr.fieldAt, run_bind, run_underlying hu, hf, Instr.sureAddr, fieldPlace, run_sizeOf' hi, hz', if_false, Sem.run, pure]
        · exact h.elim
      · exact h.elim
    · exact h.elim
  case extract x i =>
    split at h
    · rename_i vs hx
      split at h
      · rename_i v hv
        rw [hx]
        refine upon_ok (w' := w) ?_ (asT_el h)
        simp only [Instr.extract, hv, Sem.run, pure]
      · exact h.elim
    · exact h.elim
  case makeFunc fn a b =>
    rw [evs_toArray, evs_toArray] at h
    exact upon_ok (w' := w) rfl h
  case makeInterface t x =>
    split at h
    · exact h.elim
    · rename_i d hn hu
      refine upon_ok (w' := w) ?_ h
      simp only [Instr.makeInterface, run_bind, run_underlying hu]
      cases d <;> first | rfl | (exact absurd hu (hn _))
    · exact h.elim
  case convert s d x =>
    split at h
    · exact runV_upon (fun _ _ h => asT_el h) h
    · exact h
  case indexAddr t x i =>
    split at h
    · rename_i el b l c k n hu hx hn
      split at h
      · rename_i inf hi
        obtain ⟨⟨h1, h2⟩, h⟩ := h
        obtain ⟨a, rfl, h⟩ := nn_el h
        rw [hx, hn]
        exact upon_ok (run_indexAt_ok hu hi (.inl ⟨rfl, _, rfl⟩) h1 h2) (by rw [← scale_eq]; exact h _ rfl)
      · exact h.elim
    · rename_i len el a k n hu hx hn
      split at h
      · rename_i inf hi
        obtain ⟨⟨h1, h2⟩, h⟩ := h
        rw [hx, hn]
        exact upon_ok (run_indexAt_ok hu hi (.inr ⟨rfl, rfl⟩) h1 h2) (by rw [← scale_eq]; exact h _ rfl)
      · exact h.elim
    · exact h.elim
  case index t x i =>
    split at h
    · rename_i s k n hu hx hn
      obtain ⟨⟨h1, h2⟩, h⟩ := h
      rw [hx, hn]
      refine upon_ok (w' := w) ?_ h
      simp only [Instr.index, asIntOf, run_bind, run_underlying hu, Sem.run, pure, h1, if_true, bt_eq h1 h2]
      rfl
    · rename_i len el cs k n hu hx hn
      split at h
      · rename_i inf hi
        obtain ⟨⟨h1, h2⟩, h⟩ := h
        rw [hx, hn]
        obtain ⟨v, hv, h⟩ := run_part (w := w) h
        refine upon_ok (w' := w) ?_ h
        rw [scale_eq] at hv
        simp only [Instr.index, asIntOf, run_bind, run_underlying hu, Sem.run, pure, h1, h2, and_self, if_true, run_sizeOf' hi, hv]
      · exact h.elim
    · exact h.elim
  case slice t x lo hi mx =>
    split at h
    · rename_i s hu hx
      obtain ⟨l, h', hr, hK, h0⟩ := run_cutB (P := P) (b := false) (w := w) h
      rw [hx]
      refine upon_ok (w' := w) ?_ hK
      rw [mapO_eq, mapO_eq] at hr
      simp only [Instr.sliceAt, Instr.slice, run_bind, run_underlying hu, Option.map_none, Option.isSome_none, Bool.false_eq_true, if_false, hr]
      rfl
    · rename_i el a len cap hu hx
      split at h
      · rename_i inf hi'
        obtain ⟨l, h', hr, hK, h0⟩ := run_cutB (P := P) (b := true) (w := w) h
        rw [hx]
        refine upon_ok (w' := w) ?_ hK
        rw [mapO_eq, mapO_eq] at hr
        simp only [Instr.sliceAt, Instr.slice, run_bind, run_underlying hu, Option.map_none, hr, run_sizeOf' hi', Sem.run, pure]
        cases lo with
        | none => rw [h0 rfl]; exact congrArg (fun z => Result.ok (Value.slice z _ _) w) slA_none
        | some lo => rfl
      · exact h.elim
    · rename_i n el a hu hx
      split at h
      · rename_i inf hi'
        obtain ⟨l, h', hr, hK, h0⟩ := run_cutB (P := P) (b := false) (w := w) h
        rw [hx]
        refine upon_ok (w' := w) ?_ hK
        rw [mapO_eq, mapO_eq] at hr
        simp only [Instr.sliceAt, Instr.sureAddr, run_bind, run_underlying hu, Option.map_none, hr, run_sizeOf' hi', Sem.run, pure]
        cases lo with
        | none =>
          rw [h0 rfl]
          refine congrArg (fun z => Result.ok (Value.slice z _ _) w) ?_
          split
          · rfl
          · simp [Addr.add]
        | some lo =>
          refine congrArg (fun z => Result.ok (Value.slice z _ _) w) ?_
          unfold slA
          split <;> rfl
      · exact h.elim
    · exact runV_upon (fun _ _ h => h) h
  case makeMap t r => rw [mapO_eq] at h; exact runV_upon (fun _ _ h => asT_el h) h
  case makeSlice => exact runV_upon (fun _ _ h => asT_el h) h
  case lookup => exact runV_upon (fun _ _ h => asT_el h) h
  case mapUpdate => exact runU_upon (fun _ h => h) h
  case insert => exact runU_upon (fun _ h => h) h
  case mapEntry => exact runV_upon (fun _ _ h => h) h
  case entryStore => exact runU_upon (fun _ h => h) h
  case range => exact runV_upon (fun _ _ h => h) h
  case panic => exact runV_upon (fun _ _ h => h) h
  case next it b =>
    refine runV_upon (fun v w h => ?_) h
    cases b
    · rcases nxt_e h with ⟨x, y, rfl, h⟩ | ⟨rfl, h⟩ <;> exact h
    · rcases nxt_e h with ⟨x, y, rfl, h⟩ | ⟨rfl, h⟩
      · obtain ⟨i, rfl, h⟩ := asI_el h
        obtain ⟨r, rfl, h⟩ := asI_el h
        exact h
      · exact h
  case typeAssert => exact runV_upon (fun _ _ h => asT_el h) h
  case call c =>
    obtain ⟨callee, args, argTypes⟩ := c
    cases callee with
    | value x =>
      have hgen : callV P (e.ev x) (evs e args.toList) w (fun v w1 => asT P type v fun v' => K v' w1) X → upon P K X ((do let d ← resolve e.ev ⟨.value x, args, argTypes⟩ type; invoke d.target d.args : Sem Next).run P w) := by
        intro h
        unfold callV at h
        rw [evs_toArray] at h
        exact upon_mono (fun _ _ h => asT_el h) (fun _ _ h => h) h
      cases x with
      | func f =>
        simp only at h
        split at h
        · rename_i fn hf
          have hr : ((do let d ← resolve e.ev ⟨.value (.func f), args, argTypes⟩ type; invoke d.target d.args : Sem Next)) = callFunc f (args.map e.ev) := by
            simp [resolve, Env.ev, Deferred.ofValue, invoke]
          rw [hr]
          split at h
          · rename_i b hb
            unfold call at h
            rw [evs_toArray] at h
            have : (callFunc f (args.map e.ev)).run P w = .ok (.enter f (args.map e.ev)) w := by
              unfold callFunc
              rw [run_bind]
              simp only [program, Sem.run, pure, hf, hP f fn hf, hb]
              rfl
            rw [this]
            exact Calls.mono h (fun e w' he => by cases e <;> first | exact asT_el he | exact he)
          · unfold callX at h
            rw [evs_toArray] at h
            exact upon_mono (fun _ _ h => asT_el h) (fun _ _ h => h) h
        · exact h.elim
      | tmp t => exact hgen h
      | const v => exact hgen h
      | global g => exact hgen h
    | invoke r name =>
      simp only at h
      unfold callI at h
      rw [evs_toArray] at h
      refine upon_mono (fun _ _ h => asT_el h) (fun _ _ h => h) (K := fun v w1 => asT P type v fun v' => K v' w1) (X := X) ?_
      have hr : ((do let d ← resolve e.ev ⟨.invoke r name, args, argTypes⟩ type; invoke d.target d.args : Sem Next)) = callMethod (e.ev r) name (args.map e.ev) := by
        have h0 : (#[e.ev r] ++ args.map e.ev)[0]? = some (e.ev r) := by rw [Array.getElem?_append_left (by simp)]; rfl
        have h1 : (#[e.ev r] ++ args.map e.ev).extract 1 (#[e.ev r] ++ args.map e.ev).size = args.map e.ev := by
          apply Array.ext'
          simp
          rw [List.take_of_length_le (by simp)]
        show invoke (.fn (.method name) #[]) (#[e.ev r] ++ args.map e.ev) = _
        unfold invoke
        simp only [h0, h1]
      rw [hr]; exact h
    | builtin b =>
      have hr : ((do let d ← resolve e.ev ⟨.builtin b, args, argTypes⟩ type; invoke d.target d.args : Sem Next)) = builtin b argTypes type (args.map fun | .const _ => true | _ => false) (args.map e.ev) := rfl
      rw [hr]
      cases b <;> simp only at h <;> first
        | exact h
        | (split at h
           · rename_i r heq
             rw [← evs_toArray, heq]
             exact runV_upon (fun _ _ h => asT_el h) h
           · rename_i s heq
             rw [← evs_toArray, heq]
             split at h
             · rename_i hu
               refine upon_ok (w' := w) ?_ h
               exact run_lenS hu
             · exact h.elim
           · rename_i p l c heq
             rw [← evs_toArray, heq]
             split at h
             · rename_i hu
               refine upon_ok (w' := w) ?_ h
               exact run_lenL hu
             · exact h.elim
           · exact h)
        | (split at h
           · rename_i p l c heq
             rw [← evs_toArray, heq]
             split at h
             · rename_i hu
               refine upon_ok (w' := w) ?_ h
               exact run_capL hu
             · exact h.elim
           · exact h)
        | (rw [evs_toArray] at h; exact runV_upon (fun _ _ h => asT_el h) h)
        | (rw [evs_toArray] at h; exact runV_upon (fun _ _ h => h) h)
  all_goals exact h
end Go.Vc
