/- What a light operation yields, it yields whenever it is run. -/
import Derived.Test.YtgfbkmclekafbaaGreatDoorQVc8
set_option linter.unusedVariables false
set_option linter.unusedSimpArgs false
set_option linter.unnecessarySimpa false
namespace Go.Vc
open Go
variable {P : Program}

/-- a run that hangs on nothing of the world -/
def WI {α : Type} (P : Program) (s : Sem α) : Prop := ∀ w a w1, s.run P w = .ok a w1 → w1 = w ∧ ∀ w', s.run P w' = .ok a w'
theorem WI_pure {α : Type} (a : α) : WI P (pure a) := by
  intro w b w1 h
  simp only [pure, Sem.run, Result.ok.injEq] at h ⊢
  obtain ⟨rfl, rfl⟩ := h
  exact ⟨rfl, fun _ => by simp⟩
theorem WI_bind {α β : Type} {s : Sem α} {f : α → Sem β} (hs : WI P s) (hf : ∀ a, WI P (f a)) : WI P (s >>= f) := by
  intro w b w1 h
  rw [run_bind] at h
  cases hr : s.run P w with
  | ok a w2 =>
    rw [hr] at h
    obtain ⟨rfl, h2⟩ := hs _ _ _ hr
    obtain ⟨rfl, h3⟩ := hf a _ _ _ h
    exact ⟨rfl, fun w' => by rw [run_bind, h2 w']; exact h3 w'⟩
  | halt x w2 => rw [hr] at h; simp at h
theorem WI_halt {α : Type} (x : Halt) : WI P (.halt x : Sem α) := by intro w b w1 h; simp [Sem.run] at h
theorem WI_stuck {α : Type} (x : String) : WI P (stuck x : Sem α) := WI_halt _
theorem WI_unsupported {α : Type} (x : Unsupported) : WI P (unsupported x : Sem α) := WI_halt _
theorem WI_program : WI P program := by
  intro w a w1 h
  simp only [program, Sem.run, Result.ok.injEq] at h ⊢
  obtain ⟨rfl, rfl⟩ := h
  exact ⟨rfl, fun _ => by simp⟩
theorem WI_underlying (t : TypeId) : WI P (underlying t) := by
  unfold underlying
  refine WI_bind WI_program fun p => ?_
  cases p.underlying t with
  | none => exact WI_stuck _
  | some d => exact WI_pure _
theorem WI_typeInfo (t : TypeId) : WI P (typeInfo t) := by
  unfold typeInfo
  refine WI_bind WI_program fun p => ?_
  cases p.info? t with
  | none => exact WI_stuck _
  | some d => exact WI_pure _
theorem WI_sizeOf (t : TypeId) : WI P (sizeOf t) := WI_bind (WI_typeInfo t) fun _ => WI_pure _
theorem WI_zeroValue (t : TypeId) : WI P (zeroValue t) := by
  unfold zeroValue
  refine WI_bind (WI_typeInfo t) fun i => ?_
  cases i.zero with
  | none => exact WI_unsupported _
  | some d => exact WI_pure _
theorem WI_isAgg (t : TypeId) : WI P (isAgg t) := by
  unfold isAgg
  refine WI_bind (WI_underlying t) fun d => ?_
  cases d <;> exact WI_pure _
theorem WI_part (t : TypeId) (cs : Array Value) (o : Nat) : WI P (part t cs o) := by
  unfold part
  refine WI_bind (WI_isAgg t) fun b => ?_
  cases b
  · simp only [Bool.false_eq_true, if_false]
    cases cs[o]? with
    | none => exact WI_stuck _
    | some v => exact WI_pure _
  · simp only [if_true]
    exact WI_bind (WI_sizeOf t) fun _ => WI_pure _
theorem WI_goPanic {α : Type} (v : Value) : WI P (goPanic v : Sem α) := WI_halt _
theorem noOk_bind {α β : Type} {s : Sem α} {f : α → Sem β} (hf : ∀ a w b w1, (f a).run P w ≠ .ok b w1) : ∀ w b w1, (s >>= f).run P w ≠ .ok b w1 := by
  intro w b w1 h
  rw [run_bind] at h
  cases hr : s.run P w with
  | ok a w2 => rw [hr] at h; exact hf _ _ _ _ h
  | halt x w2 => rw [hr] at h; simp at h
theorem noOk_rt {α : Type} (e : RuntimeError) : ∀ w (b : α) w1, (runtimePanic e : Sem α).run P w ≠ .ok b w1 := by
  unfold runtimePanic
  refine noOk_bind fun p => ?_
  cases e <;> simp only [] <;> first
    | (intro w b w1 h; simp [goPanic, Sem.run] at h; done)
    | (refine noOk_bind fun a => ?_; refine noOk_bind fun a => ?_; intro w b w1 h; simp [goPanic, Sem.run] at h; done)
theorem WI_of_noOk {α : Type} {s : Sem α} (h : ∀ w (b : α) w1, s.run P w ≠ .ok b w1) : WI P s := fun w b w1 hh => absurd hh (h w b w1)
theorem WI_mapM {α β : Type} {f : α → Sem β} (hf : ∀ a, WI P (f a)) : ∀ l : List α, WI P (l.mapM f)
  | [] => by rw [List.mapM_nil]; exact WI_pure _
  | a :: r => by
    rw [List.mapM_cons]
    exact WI_bind (hf a) fun b => WI_bind (WI_mapM hf r) fun _ => WI_pure _
theorem WI_map {α β : Type} {s : Sem α} {f : α → β} (hs : WI P s) : WI P (f <$> s) := by
  rw [← bind_pure_comp]; exact WI_bind hs fun _ => WI_pure _
theorem WI_mapMA {α β : Type} {f : α → Sem β} (hf : ∀ a, WI P (f a)) (l : Array α) : WI P (l.mapM f) := by
  rw [Array.mapM_eq_mapM_toList]; exact WI_map (WI_mapM hf _)
theorem WI_build (t : TypeId) (ps : Array (Nat × Value)) : WI P (Instr.build t ps) := by
  unfold Instr.build
  refine WI_bind (WI_zeroValue t) fun z => WI_bind (WI_underlying t) fun d => ?_
  cases d <;> simp only [] <;> try exact WI_stuck _
  · refine WI_bind (WI_sizeOf _) fun n => ?_
    split
    · exact WI_pure _
    · exact WI_stuck _
  · refine WI_bind (WI_mapMA (fun f => WI_bind (WI_sizeOf _) fun _ => WI_pure _) _) fun n => ?_
    split
    · exact WI_pure _
    · exact WI_stuck _
theorem WI_field (t : TypeId) (x : Value) (f : Nat) : WI P (Instr.field t x f) := by
  unfold Instr.field
  refine WI_bind (WI_underlying t) fun d => ?_
  cases d <;> simp only [] <;> try exact WI_stuck _
  split
  · refine WI_bind ?_ fun _ => WI_part _ _ _
    unfold Go.asAgg
    split
    · exact WI_pure _
    · exact WI_stuck _
  · exact WI_stuck _
theorem WI_intArith (op : BinOp) (k : IntKind) (x y : Int) : WI P (Op.intArith op k x y) := by
  cases op <;> first | exact WI_pure _ | exact WI_stuck _
theorem WI_intBits (op : BinOp) (k : IntKind) (x y : Int) : WI P (Op.intBits op k x y) := by
  cases op <;> first | exact WI_pure _ | exact WI_stuck _
theorem WI_intCmp (op : BinOp) (x y : Int) : WI P (Op.intCmp op x y) := by
  cases op <;> first | exact WI_pure _ | exact WI_stuck _
theorem WI_unary (op : UnOp) (x : Value) : WI P (Op.unary op x) := by
  unfold Op.unary
  split <;> first | exact WI_intArith _ _ _ _ | exact WI_intBits _ _ _ _ | exact WI_pure _ | exact WI_unsupported _ | exact WI_stuck _
theorem WI_string (op : BinOp) (x y : ByteArray) : WI P (Op.stringOp op x y) := by
  cases op <;> simp only [Op.stringOp] <;> first | exact WI_pure _ | exact WI_stuck _ | (split <;> first | exact WI_pure _ | exact WI_unsupported _)
theorem WI_ite {α : Type} {c : Prop} [Decidable c] {s t : Sem α} (hs : WI P s) (ht : WI P t) : WI P (if c then s else t) := by
  split <;> assumption
theorem WI_intDiv (op : BinOp) (k : IntKind) (x y : Int) : WI P (Op.intDiv op k x y) := by
  unfold Op.intDiv
  refine WI_ite (WI_of_noOk (noOk_rt _)) ?_
  split <;> first | exact WI_pure _ | exact WI_stuck _
theorem WI_shift (op : BinOp) (k : IntKind) (x : Int) (k' : IntKind) (y : Int) : WI P (Op.shift op k x k' y) := by
  unfold Op.shift
  refine WI_ite (WI_of_noOk (noOk_rt _)) ?_
  simp only []
  split <;> first | exact WI_pure _ | exact WI_stuck _
theorem WI_floatCmp (op : BinOp) (k : FloatKind) (x y : Nat) : WI P (Op.floatCmp op k x y) := by
  cases op <;> first | exact WI_pure _ | exact WI_stuck _
theorem WI_intToInt (k : IntKind) (n : Int) : WI P (Conv.intToInt k n) := WI_pure _
theorem run_convert_int' {s d : TypeId} {ds : TypeDesc} {k j : IntKind} {n : Int} (hs : P.underlying s = some ds) (hd : P.underlying d = some (.int k)) (w : World) :
    (convert s d (.int j n)).run P w = .ok (.int k (k.wrap n)) w := by
  unfold convert
  rw [run_bind, run_underlying hs]
  simp only []
  rw [run_bind, run_underlying hd]
  cases ds <;> rfl

theorem run_ok {s : Sem Value} {w : World} {K : Value → World → Prop} (hs : WI P s) (h : upon P K (fun _ _ => False) ((do let v ← s; pure (.value v) : Sem Next).run P w)) :
    ∃ v, (∀ w', s.run P w' = .ok v w') ∧ K v w := by
  rw [run_bind] at h
  cases hr : s.run P w with
  | ok v w' =>
    rw [hr] at h
    obtain ⟨rfl, h2⟩ := hs _ _ _ hr
    exact ⟨v, h2, h⟩
  | halt e w' =>
    rw [hr] at h
    cases e <;> exact h.elim
theorem run_okV {s : Sem Value} {w : World} {K : Value → World → Prop} (hs : WI P s) (h : runV P s w K (fun _ _ => False)) : ∃ v, (∀ w', s.run P w' = .ok v w') ∧ K v w :=
  run_ok hs (runV_upon (fun _ _ h => h) h)
theorem val_ok {s : Sem Value} {v : Value} {w : World} (h : s.run P w = .ok v w) : (do let v ← s; pure (.value v) : Sem Next).run P w = .ok (.value v) w := by
  rw [run_bind, h]; rfl

def isLoad (o : Oper) : Bool := match o.op with | .load .. => true | _ => false

theorem WI_binOp_plain {op : BinOp} {t : TypeId} {x y : Operand} {u v : Value} (hg : eqGuard op t x y u v = pure ()) (h : WI P (binOp op t u v)) : WI P (do eqGuard op t x y u v; binOp op t u v : Sem Value) := by
  rw [hg]; exact WI_bind (WI_pure _) fun _ => h
theorem WI_bin_int (op : BinOp) (t : TypeId) (k k' : IntKind) (a b : Int) : WI P (binOp op t (.int k a) (.int k' b)) := by
  cases op <;> simp only [binOp] <;> first
    | exact WI_shift _ _ _ _ _
    | (split
       · exact WI_stuck _
       · first | exact WI_intArith _ _ _ _ | exact WI_intDiv _ _ _ _ | exact WI_intBits _ _ _ _ | exact WI_intCmp _ _ _)
theorem WI_bin_str (op : BinOp) (t : TypeId) (a b : ByteArray) : WI P (binOp op t (.string a) (.string b)) := by
  cases op <;> simp only [binOp] <;> exact WI_string _ _ _
theorem WI_eqIn_bool (d : Nat) (t : TypeId) (a b : Bool) : WI P (Op.equalIn (d + 1) t (.bool a) (.bool b)) := by
  simp only [Op.equalIn]
  refine WI_bind (WI_underlying t) fun d => ?_
  cases d <;> first | exact WI_pure _ | exact WI_stuck _
theorem WI_equal_bool (t : TypeId) (a b : Bool) : WI P (Op.equal t (.bool a) (.bool b)) := WI_eqIn_bool 9999 t a b

theorem vcBin_lightOk {ty : TypeId} {o : Oper} {op : BinOp} {t yt : TypeId} {x y : Operand} {e : Env} {w : World} {K : Value → World → Prop} (ho : o.op = .binOp op t x y yt) (hl : lightOk P o e = true)
    (h : vcBin P ty op t x y (e.ev x) (e.ev y) w K (fun _ _ => False)) : ∃ r, (∀ w', (do eqGuard op t x y (e.ev x) (e.ev y); binOp op t (e.ev x) (e.ev y) : Sem Value).run P w' = .ok r w') ∧ K r w := by
  unfold lightOk at hl
  rw [ho] at hl
  simp only at hl
  have hrun : ∀ (hw : WI P (do eqGuard op t x y (e.ev x) (e.ev y); binOp op t (e.ev x) (e.ev y) : Sem Value)), ∃ r, (∀ w', (do eqGuard op t x y (e.ev x) (e.ev y); binOp op t (e.ev x) (e.ev y) : Sem Value).run P w' = .ok r w') ∧ K r w :=
    fun hw => run_ok hw (vcBin_upon h)
  have hyv : ∀ c, y = .const c → e.ev y = c := fun c hc => by rw [hc]; rfl
  split at hl
  · rename_i hy
    split at hl
    · unfold vcBin at h
      simp only [hy] at h
      obtain ⟨b, hr, hK⟩ := run_nil (neg := false) (x := x) hy (fun _ _ => trivial) hyv h
      exact ⟨_, hr, hK⟩
    · unfold vcBin at h
      simp only [hy] at h
      obtain ⟨b, hr, hK⟩ := run_nil (neg := true) (x := x) hy (fun _ _ => trivial) hyv h
      exact ⟨_, hr, hK⟩
    · simp at hl
  · split at hl
    · rename_i hx hv
      rw [hx, hv] at hrun ⊢
      exact hrun (WI_binOp_plain (eqGuard_at_int ..) (WI_bin_int _ _ _ _ _ _))
    · rename_i hx hv
      rw [hx, hv] at hrun ⊢
      exact hrun (WI_binOp_plain (eqGuard_at_string ..) (WI_bin_str _ _ _ _))
    · rename_i hx hv
      rw [hx, hv] at hrun ⊢
      refine hrun (WI_binOp_plain (eqGuard_at_float ..) ?_)
      split at hl
      all_goals first
        | (simp at hl; done)
        | (simp only [binOp]; split <;> first | exact WI_stuck _ | exact WI_floatCmp _ _ _ _)
    · rename_i hx hv
      rw [hx, hv] at hrun ⊢
      refine hrun (WI_binOp_plain (eqGuard_at_bool ..) ?_)
      split at hl
      · exact WI_bind (WI_equal_bool _ _ _) fun _ => WI_pure _
      · exact WI_bind (WI_equal_bool _ _ _) fun _ => WI_pure _
      · simp at hl
    · simp at hl

theorem noOk_bounds {α : Type} (k : IntKind) (x y : Int) (c : BoundsCode) : ∀ w (b : α) w1, (boundsPanic k x y c : Sem α).run P w ≠ .ok b w1 := by
  unfold boundsPanic
  simp only []
  split
  · exact noOk_bind fun b => noOk_rt _
  · exact noOk_bind fun b => noOk_rt _
theorem WI_asIntOf (v : Value) : WI P (asIntOf v) := by
  unfold asIntOf
  split <;> first | exact WI_pure _ | exact WI_unsupported _ | exact WI_stuck _
theorem WI_sliceBound (v : Value) (y : Nat) (c : BoundsCode) : WI P (Instr.sliceBound v y c) := by
  unfold Instr.sliceBound
  refine WI_bind (WI_asIntOf v) fun p => ?_
  exact WI_ite (WI_pure _) (WI_of_noOk (noOk_bounds _ _ _ _))
theorem WI_sliceBounds (b : Bool) (l c : Nat) (lo hi : Option Value) : WI P (Instr.sliceBounds b l c lo hi none) := by
  unfold Instr.sliceBounds
  refine WI_bind (WI_pure _) fun m => ?_
  cases hi <;> cases lo <;> simp only []
  · exact WI_bind (WI_pure _) fun _ => WI_bind (WI_pure _) fun _ => WI_pure _
  · exact WI_bind (WI_pure _) fun _ => WI_bind (WI_sliceBound _ _ _) fun _ => WI_pure _
  · exact WI_bind (WI_sliceBound _ _ _) fun _ => WI_bind (WI_pure _) fun _ => WI_pure _
  · exact WI_bind (WI_sliceBound _ _ _) fun _ => WI_bind (WI_sliceBound _ _ _) fun _ => WI_pure _
theorem WI_slice (t : TypeId) (x : Value) (lo hi : Option Value) : WI P (Instr.slice t x lo hi none) := by
  unfold Instr.slice
  refine WI_bind (WI_underlying t) fun d => ?_
  split
  · simp only [Option.isSome_none, Bool.false_eq_true, if_false]
    exact WI_bind (WI_sliceBounds _ _ _ _ _) fun r => WI_pure _
  · exact WI_bind (WI_sliceBounds _ _ _ _ _) fun r => WI_bind (WI_sizeOf _) fun _ => WI_pure _
  · refine WI_bind ?_ fun a => WI_bind (WI_underlying _) fun d => ?_
    · unfold asAddr
      split <;> first | exact WI_pure _ | exact WI_of_noOk (noOk_rt _) | exact WI_stuck _
    · split
      · exact WI_bind (WI_sliceBounds _ _ _ _ _) fun r => WI_bind (WI_sizeOf _) fun _ => WI_pure _
      · exact WI_stuck _
  · exact WI_stuck _
theorem WI_sureAddr (v : Value) : WI P (Instr.sureAddr v) := by
  unfold Instr.sureAddr
  split <;> first | exact WI_pure _ | exact WI_stuck _
theorem WI_sliceAt (t : TypeId) (x : Value) (lo hi : Option Value) : WI P (Instr.sliceAt t x lo hi none) := by
  unfold Instr.sliceAt
  refine WI_bind (WI_underlying t) fun d => ?_
  split
  · exact WI_bind (WI_sureAddr _) fun a => WI_bind (WI_sliceBounds _ _ _ _ _) fun r => WI_bind (WI_sizeOf _) fun _ => WI_pure _
  · exact WI_slice _ _ _ _
theorem WI_len (ts : Array TypeId) (t : TypeId) (v : Value) (h : (∃ a l c, v = .slice a l c) ∨ (∃ s, v = .string s)) : WI P (Builtin.len_ ts t #[v]) := by
  unfold Builtin.len_
  split
  · rename_i t' x h2
    have hx : x = v := by simp at h2; exact h2.2.symm
    subst hx
    refine WI_bind (WI_underlying _) fun d => ?_
    rcases h with ⟨a, l, c, rfl⟩ | ⟨s, rfl⟩ <;> cases d <;> simp only [] <;> first
      | exact WI_pure _
      | exact WI_stuck _
      | (refine WI_bind (WI_underlying _) fun d => ?_; split <;> first | exact WI_pure _ | exact WI_stuck _)
  · exact WI_stuck _
theorem WI_cap (ts : Array TypeId) (t : TypeId) (v : Value) (h : (∃ a l c, v = .slice a l c)) : WI P (Builtin.cap_ ts t #[v]) := by
  unfold Builtin.cap_
  split
  · rename_i t' x h2
    have hx : x = v := by simp at h2; exact h2.2.symm
    subst hx
    refine WI_bind (WI_underlying _) fun d => ?_
    rcases h with ⟨a, l, c, rfl⟩ <;> cases d <;> simp only [] <;> first
      | exact WI_pure _
      | exact WI_stuck _
      | (refine WI_bind (WI_underlying _) fun d => ?_; split <;> first | exact WI_pure _ | exact WI_stuck _)
  · exact WI_stuck _
theorem WI_indexAt (t : TypeId) (x i : Value) : WI P (Instr.indexAt t x i) := by
  unfold Instr.indexAt
  refine WI_bind (WI_asIntOf i) fun p => WI_bind (WI_underlying t) fun d => ?_
  simp only []
  split
  · refine WI_bind (WI_sureAddr _) fun a => WI_bind (WI_pure _) fun q => ?_
    refine WI_bind (WI_underlying t) fun d => ?_
    split
    · refine WI_ite (WI_bind (WI_sizeOf _) fun _ => WI_pure _) (WI_ite (WI_unsupported _) (WI_of_noOk (noOk_bounds _ _ _ _)))
    · exact WI_of_noOk (noOk_bounds _ _ _ _)
  · refine WI_bind (WI_pure _) fun q => ?_
    refine WI_bind (WI_underlying t) fun d => ?_
    split
    · refine WI_ite (WI_bind (WI_sizeOf _) fun _ => WI_pure _) (WI_ite (WI_unsupported _) (WI_of_noOk (noOk_bounds _ _ _ _)))
    · exact WI_of_noOk (noOk_bounds _ _ _ _)
  · refine WI_bind (WI_stuck _) fun q => ?_
    refine WI_bind (WI_underlying t) fun d => ?_
    split
    · refine WI_ite (WI_bind (WI_sizeOf _) fun _ => WI_pure _) (WI_ite (WI_unsupported _) (WI_of_noOk (noOk_bounds _ _ _ _)))
    · exact WI_of_noOk (noOk_bounds _ _ _ _)
theorem WI_index (t : TypeId) (x i : Value) : WI P (Instr.index t x i) := by
  unfold Instr.index
  refine WI_bind (WI_asIntOf i) fun p => WI_bind (WI_underlying t) fun d => ?_
  split
  · exact WI_ite (WI_bind (WI_sizeOf _) fun _ => WI_part _ _ _) (WI_of_noOk (noOk_bounds _ _ _ _))
  · split
    · exact WI_pure _
    · exact WI_of_noOk (noOk_bounds _ _ _ _)
  · exact WI_stuck _
end Go.Vc
