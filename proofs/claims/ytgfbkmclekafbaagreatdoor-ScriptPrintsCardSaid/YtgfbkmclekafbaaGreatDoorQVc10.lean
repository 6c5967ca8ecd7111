/- Light operations: each yields one value, in every world but for a load. -/
import Derived.Test.YtgfbkmclekafbaaGreatDoorQVc9
set_option linter.unusedVariables false
set_option linter.unusedSimpArgs false
set_option linter.unnecessarySimpa false
namespace Go.Vc
open Go
variable {P : Program}

theorem light_mk {s : Sem Value} {o : Oper} {v : Value} {w : World} {K : Value → World → Prop} {r : Sem Next} (hr : r = (do let v ← s; pure (.value v))) (h : ∀ w', s.run P w' = .ok v w') (hK : K v w) :
    ∃ v, r.run P w = .ok (.value v) w ∧ (isLoad o = false → ∀ w', r.run P w' = .ok (.value v) w') ∧ K v w := by
  subst hr
  exact ⟨v, val_ok (h w), fun _ w' => val_ok (h w'), hK⟩
theorem light_ex {s : Sem Value} {o : Oper} {w : World} {K : Value → World → Prop} {r : Sem Next} (hr : r = (do let v ← s; pure (.value v))) (h : ∃ v, (∀ w', s.run P w' = .ok v w') ∧ K v w) :
    ∃ v, r.run P w = .ok (.value v) w ∧ (isLoad o = false → ∀ w', r.run P w' = .ok (.value v) w') ∧ K v w := by
  obtain ⟨v, h1, h2⟩ := h
  exact light_mk hr h1 h2
theorem light_pure {o : Oper} {v : Value} {w : World} {K : Value → World → Prop} {r : Sem Next} (hr : ∀ w', r.run P w' = .ok (.value v) w') (hK : K v w) :
    ∃ v, r.run P w = .ok (.value v) w ∧ (isLoad o = false → ∀ w', r.run P w' = .ok (.value v) w') ∧ K v w :=
  ⟨v, hr w, fun _ => hr, hK⟩

theorem light_run (hP : Plain P) {o : Oper} {s : Sem Value} {e : Env} {w : World} {K : Value → World → Prop} (hs : execOp e.ev o = (do let v ← s; pure (.value v))) (hw : WI P s) (h : opvc P o e w K (fun _ _ => False)) :
    ∃ v, (execOp e.ev o).run P w = .ok (.value v) w ∧ (isLoad o = false → ∀ w', (execOp e.ev o).run P w' = .ok (.value v) w') ∧ K v w := by
  have := opvc_upon hP h
  rw [hs] at this
  exact light_ex hs (run_ok hw this)
theorem WI_fieldAt {s : TypeId} {x : Value} {f : Nat} {fs : Array Field} {fd : Field} {i : TypeInfo} (hu : P.underlying s = some (.struct fs)) (hf : fs[f]? = some fd) (hi : P.info? fd.type = some i) (hz : i.size ≠ 0) :
    WI P (Instr.fieldAt s x f) := by
  intro w a w1 h
  have he : ∀ w, (Instr.fieldAt s x f).run P w = (do let a ← Instr.sureAddr x; pure (.pointer (some (a.add fd.offset))) : Sem Value).run P w := by
    intro w
    simp only [Instr.fieldAt, run_bind, run_underlying hu, hf]
    cases hx : (Instr.sureAddr x).run P w with
    | ok a w2 => simp only [fieldPlace, run_bind, run_sizeOf' hi, hz, if_false, Sem.run, pure]
    | halt e w2 => rfl
  rw [he] at h
  obtain ⟨h1, h2⟩ := (WI_bind (WI_sureAddr x) fun _ => WI_pure _) _ _ _ h
  exact ⟨h1, fun w' => by rw [he]; exact h2 w'⟩
theorem WI_makeInterface (t : TypeId) (x : Value) : WI P (Instr.makeInterface t x) := by
  unfold Instr.makeInterface
  refine WI_bind (WI_underlying t) fun d => ?_
  split
  · exact WI_stuck _
  · exact WI_pure _
theorem WI_extract (x : Value) (i : Nat) : WI P (Instr.extract x i) := by
  unfold Instr.extract
  split
  · split
    · exact WI_pure _
    · exact WI_stuck _
  · exact WI_stuck _
theorem call_builtin (e : Env) (b : Builtin) (args : Array Operand) (ts : Array TypeId) (t : TypeId) :
    (do let d ← resolve e.ev ⟨.builtin b, args, ts⟩ t; invoke d.target d.args : Sem Next) = builtin b ts t (args.map fun | .const _ => true | _ => false) (args.map e.ev) := rfl

set_option maxHeartbeats 2000000 in
theorem light_sem (hP : Plain P) {o : Oper} {e : Env} {w : World} {K : Value → World → Prop} (hl : lightOk P o e = true) (h : opvc P o e w K (fun _ _ => False)) :
    ∃ v, (execOp e.ev o).run P w = .ok (.value v) w ∧ (isLoad o = false → ∀ w', (execOp e.ev o).run P w' = .ok (.value v) w') ∧ K v w := by
  have hl0 := hl
  have h0 := h
  obtain ⟨dst, op, type, pos, after, guard⟩ := o
  cases op <;> simp only [lightOk, Bool.false_eq_true] at hl
  case move x => exact light_pure (fun _ => rfl) h
  case assign x => exact light_pure (fun _ => rfl) h
  case pick c a b =>
    simp only [opvc] at h
    obtain ⟨t, ht, h⟩ := asB_el h
    simp only [execOp]
    rw [ht]
    cases t
    · exact light_pure (fun _ => rfl) h
    · exact light_pure (fun _ => rfl) h
  case build t ps => exact light_run hP rfl (WI_build _ _) h
  case load t x =>
    simp only [opvc] at h
    simp only [execOp]
    split at h
    · rename_i a l i hx ht hi
      obtain ⟨v, hv, h⟩ := ld_el h
      obtain ⟨h1, d, h2⟩ := tySh_leaf ht
      refine ⟨v, ?_, fun hh => by simp [isLoad] at hh, asLeaf_el h⟩
      rw [hx]
      refine val_ok ?_
      simp only [Instr.loadAt, Instr.sureAddr, run_bind, pure, Sem.run]
      exact run_loadVar_leaf h2 h1 hv
    · rename_i a ls i hx ht hi
      split at h
      · rename_i hn
        obtain ⟨vs, hls, hc, h⟩ := ldLeaves_el h
        obtain ⟨h1, d, h2⟩ := tySh_agg ht
        refine ⟨_, ?_, fun hh => by simp [isLoad] at hh, h⟩
        rw [hx]
        refine val_ok ?_
        simp only [Instr.loadAt, Instr.sureAddr, run_bind, pure, Sem.run]
        exact run_loadVar_agg h2 h1 hi (by rw [hls]; exact (Nat.eq_of_beq_eq_true hn).symm) (by simpa using hc)
      · exact h.elim
    · exact h.elim
  case nilCheck x =>
    simp only [opvc] at h
    simp only [execOp]
    split at h
    · rename_i p hx
      obtain ⟨a, rfl, h⟩ := nn_el h
      rw [hx]
      exact light_pure (fun _ => rfl) h
    · rename_i hx
      split at hl
      · rename_i p hp; exact absurd hp (hx p)
      · simp at hl
  case binOp op t x y u =>
    simp only [opvc] at h
    exact light_ex rfl (vcBin_lightOk (o := ⟨dst, .binOp op t x y u, type, pos, after, guard⟩) rfl hl0 h)
  case unOp op t x => exact light_run hP rfl (WI_unary _ _) h
  case convert s d x =>
    split at hl
    · simp at hl
    · split at hl
      · rename_i hc ds k j n hs hd hx
        have hr := run_convert_int' (P := P) (n := n) (j := j) hs hd
        refine light_run hP rfl ?_ h
        intro w a w1 hh
        simp only [hx] at hh ⊢
        rw [hr] at hh
        simp only [Result.ok.injEq] at hh
        obtain ⟨rfl, rfl⟩ := hh
        exact ⟨rfl, hr⟩
      · simp at hl
  case makeInterface t x => exact light_run hP rfl (WI_makeInterface _ _) h
  case makeFunc fn a b => exact light_run hP rfl (WI_pure _) h
  case slice t x lo hi mx =>
    cases mx with
    | some m => simp at hl
    | none => exact light_run hP rfl (WI_sliceAt _ _ _ _) h
  case fieldAddr s x f =>
    simp only [opvc] at h0
    split at h0
    · rename_i fs a hu hx
      split at h0
      · rename_i fd hf
        split at h0
        · rename_i i hi
          split at h0
          · exact h0.elim
          · rename_i hz
            exact light_run hP rfl (WI_fieldAt hu hf hi (fun hh => by rw [hh] at hz; simp at hz)) h
        · exact h0.elim
      · exact h0.elim
    · exact h0.elim
  case field t x f => exact light_run hP rfl (WI_field _ _ _) h
  case indexAddr t x i => exact light_run hP rfl (WI_indexAt _ _ _) h
  case index t x i => exact light_run hP rfl (WI_index _ _ _) h
  case extract x i => exact light_run hP rfl (WI_extract _ _) h
  case call c =>
    obtain ⟨callee, args, ts⟩ := c
    simp only at hl
    split at hl
    · split at hl
      · rename_i a l c heq
        refine light_run hP (call_builtin e .len args ts type) ?_ h
        rw [← evs_toArray, heq]
        exact WI_len _ _ _ (.inl ⟨_, _, _, rfl⟩)
      · rename_i s heq
        refine light_run hP (call_builtin e .len args ts type) ?_ h
        rw [← evs_toArray, heq]
        exact WI_len _ _ _ (.inr ⟨_, rfl⟩)
      · simp at hl
    · split at hl
      · rename_i a l c heq
        refine light_run hP (call_builtin e .cap args ts type) ?_ h
        rw [← evs_toArray, heq]
        exact WI_cap _ _ _ ⟨_, _, _, rfl⟩
      · simp at hl
    · simp at hl
end Go.Vc
