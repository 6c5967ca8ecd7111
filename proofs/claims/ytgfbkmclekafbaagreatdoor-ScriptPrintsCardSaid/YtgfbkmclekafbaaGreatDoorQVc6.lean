/- Regions (in the order of their text) and statements: the reading is sound. -/
import Derived.Test.YtgfbkmclekafbaaGreatDoorQVc5
set_option linter.unusedVariables false
set_option linter.unusedSimpArgs false
set_option linter.unnecessarySimpa false
namespace Go.Vc
open Go
variable {P : Program}

def ofAct (a : Act) : Env := fun t => a.tmps.getD t undef
theorem ev_ofAct (a : Act) : (ofAct a).ev = a.eval := by
  funext x; cases x <;> rfl
theorem ofAct_put {a : Act} {d : Nat} {v : Value} (h : d < a.tmps.size) : ofAct (a.put (some d) v) = (ofAct a).set d v := by
  funext t
  unfold ofAct Env.set Act.put
  simp only [Array.getD_eq_getD_getElem?, Array.getElem?_setIfInBounds]
  by_cases he : d = t
  · subst he; simp [h]
  · have : Nat.beq t d = false := by
      rw [Bool.eq_false_iff]; intro hh; exact he (Nat.eq_of_beq_eq_true hh).symm
    simp [he, this]
def fits (n : Nat) (d : Option Nat) : Bool := match d with | none => true | some d => decide (d < n)
theorem ofAct_putO {a : Act} {d : Option Nat} {v : Value} (h : fits a.tmps.size d = true) : ofAct (a.put d v) = (ofAct a).put d v := by
  cases d with
  | none => rfl
  | some d => exact ofAct_put (by simpa [fits] using h)
theorem size_put {a : Act} {d : Option Nat} {v : Value} : (a.put d v).tmps.size = a.tmps.size := by cases d <;> simp [Act.put]
theorem defers_put {a : Act} {d : Option Nat} {v : Value} : (a.put d v).defers = a.defers := by cases d <;> simp [Act.put]
theorem set_self {e : Env} {d : Nat} {v : Value} (h : e d = v) : e.set d v = e := by
  funext t; unfold Env.set
  cases hb : Nat.beq t d with
  | true => have := Nat.eq_of_beq_eq_true hb; subst this; simpa using h.symm
  | false => rfl
theorem set_other {e : Env} {d t : Nat} {v : Value} (h : t ≠ d) : (e.set d v) t = e t := by
  unfold Env.set
  have : Nat.beq t d = false := by rw [Bool.eq_false_iff]; intro hh; exact h (Nat.eq_of_beq_eq_true hh)
  rw [this]; rfl

theorem allLeaf_intro {l : Leaf} {F : Value → Prop} (h : ∀ v, F v) : allLeaf l F := by
  cases l <;> simp only [allLeaf] <;> intros <;> exact h _
theorem allLeaves_intro : ∀ {ls : List Leaf} {F : List Value → Prop}, (∀ v, F v) → allLeaves ls F
  | [], F, h => h []
  | l :: ls, F, h => allLeaf_intro fun v => allLeaves_intro fun vs => h _
mutual
theorem allSh_intro : ∀ {s : Sh} {F : Value → Prop}, (∀ v, F v) → allSh s F
  | .leaf l, F, h => by simp only [allSh]; exact allLeaf_intro h
  | .agg ls, F, h => by simp only [allSh]; exact allLeaves_intro fun vs => h _
  | .tup ss, F, h => by simp only [allSh]; exact allShs_intro fun vs => h _
theorem allShs_intro : ∀ {ss : List Sh} {F : List Value → Prop}, (∀ v, F v) → allShs ss F
  | [], F, h => by simp only [allShs]; exact h []
  | s :: ss, F, h => by simp only [allShs]; exact allSh_intro fun v => allShs_intro fun vs => h _
end
theorem puts_gets : ∀ {L : List (Nat × Sh)} {e : Env}, puts e L (gets e L) = e
  | [], e => rfl
  | (t, s) :: r, e => by
    simp only [gets, puts]
    rw [set_self rfl]
    exact puts_gets
theorem havoc_eq {W : Nat} {e e' : Env} (h : ∀ t, W.testBit t = false → e' t = e t) : havoc W e' e = e' := by
  funext t
  unfold havoc
  cases hb : W.testBit t with
  | true => rfl
  | false => simp [h t hb]
/-- where ways meet: the way behind holds wherever the way ahead comes out -/
theorem meet_el {W : Nat} {L : List (Nat × Sh)} {e : Env} {R : Env → World → Prop} {M : (List Value → World → Prop) → Prop} (S : Env → World → Prop)
    (hR : ∀ e' w', (∀ t, W.testBit t = false → e' t = e t) → R e' w' → S e' w') (h : meet W L e R M) :
    M (fun vs w' => ∀ e', gets e' L = vs → (∀ t, W.testBit t = false → e' t = e t) → S e' w') := by
  refine h _ (allShs_intro fun vs w' hh e' hg hf => ?_)
  have := hh e'
  rw [havoc_eq hf, ← hg, puts_gets] at this
  exact hR e' w' hf this

theorem yielded_eq {ops : Array Oper} {a : Act} {j : Nat} : yielded ops a.tmps j = match (ops[j]?).bind (·.dst) with
    | some d => (match ofAct a d with | .bool b => some b | _ => none) | none => none := by
  unfold yielded ofAct
  cases (ops[j]?).bind (·.dst) with
  | none => rfl
  | some d =>
    simp only [Option.bind_some, Array.getD_eq_getD_getElem?]
    cases a.tmps[d]? with
    | none => rfl
    | some v => cases v <;> rfl
theorem guardV_el {ops : Array Oper} {o : Oper} {a : Act} {run skip : Prop} (h : guardV ops o (ofAct a) run skip) :
    (Region.wanted o (yielded ops a.tmps) = true ∧ run) ∨ (Region.wanted o (yielded ops a.tmps) = false ∧ skip) := by
  unfold guardV at h
  unfold Region.wanted
  split at h
  · rename_i hg; exact .inl ⟨by rw [hg], h⟩
  · rename_i j want hg
    simp only [hg]
    rw [yielded_eq]
    split at h
    · rename_i d hd
      rw [hd]
      simp only
      split at h
      · rename_i b hb
        rw [hb]
        cases b <;> cases want <;> simp_all
      · rename_i hb
        refine .inr ⟨?_, h⟩
        have : (match ofAct a d with | .bool b => some b | _ => none) = none := by
          cases hv : ofAct a d <;> simp_all
        rw [this]; rfl
    · rename_i hd
      rw [hd]
      exact .inr ⟨rfl, h⟩

theorem oper_upon {o : Oper} {a : Act} {w : World} {K : Value → World → Prop} {X : List PanicEntry → World → Prop} {next : Act → World → Prop} {Q : Exit → Act → World → Prop}
    (hK : ∀ v w', K v w' → next (a.put o.dst v) w') (hX : ∀ c w', X c w' → Q (.panic c) a w') (h : upon P K X ((execOp a.eval o).run P w)) : o.wpIn Fence.wide 0 P a w next Q := by
  refine ⟨fun _ _ => trivial, ?_⟩
  rw [show Fence.wide.round = none from rfl, Oper.semAt_none]
  generalize (execOp a.eval o).run P w = r at *
  cases r with
  | ok n w' =>
    cases n <;> simp only [upon] at h <;> simp only [Oper.uponIn] <;> first
      | exact hK _ _ h
      | exact h.elim
      | exact ⟨fun hd => by simp [Fence.wide] at hd, callsIn_wide.2 (Calls.mono h (fun e w'' he => by cases e <;> first | exact hK _ _ he | exact hX _ _ he | exact he.elim))⟩
      | exact ⟨fun hd => by simp [Fence.wide] at hd, RoundIn.mono h (fun e w'' he => by cases e <;> first | exact hK _ _ he | exact hX _ _ he | exact he.elim)⟩
  | halt x w' => cases x <;> first | exact hX _ _ h | exact h.elim

def RI.idx : RI → List Nat
  | .nil => []
  | .lt i k => i :: k.idx
  | .op i _ k => i :: k.idx
  | .split _ body _ _ k => body.idx ++ k.idx
  | .alt a _ => a.idx
/-- the temporaries that operations write -/
def dsts (ops : Array Oper) : List Nat → List Nat
  | [] => []
  | i :: r => (match (ops[i]?).bind (·.dst) with | some d => d :: dsts ops r | none => dsts ops r)
theorem dsts_append (ops : Array Oper) : ∀ (a b : List Nat) (t : Nat), t ∈ dsts ops (a ++ b) ↔ t ∈ dsts ops a ∨ t ∈ dsts ops b
  | [], b, t => by simp [dsts]
  | i :: r, b, t => by
    have ih := dsts_append ops r b t
    simp only [List.cons_append, dsts]
    split
    · simp [ih, or_assoc]
    · exact ih
/-- no alternatives in it -/
def RI.noAlt : RI → Bool
  | .nil => true
  | .lt _ k => k.noAlt
  | .op _ _ k => k.noAlt
  | .split _ body _ _ k => body.noAlt && k.noAlt
  | .alt _ _ => false
def RI.chk (n : Nat) (ops : Array Oper) : RI → Bool
  | .nil => true
  | .lt i k => fits n ((ops[i]?).bind (·.dst)) && k.chk n ops
  | .op i _ k => fits n ((ops[i]?).bind (·.dst)) && k.chk n ops
  | .split _ body W _ k => (dsts ops body.idx).all (W.testBit ·) && body.chk n ops && k.chk n ops && body.noAlt
  | .alt a b => a.chk n ops && b.chk n ops && (dsts ops b.idx).all fun t => (dsts ops a.idx).contains t

theorem steady_el {w : World} {a : Addr} {G : Prop} : ∀ {vs : List Value} {j : Nat}, steady w a j vs G → (∀ i (h : i < vs.length), w.cell? (a.add (j + i)) = some vs[i]) ∧ G
  | [], j, h => ⟨fun i h => by simp at h, h⟩
  | v :: r, j, h => by
    obtain ⟨h1, h2⟩ := h
    obtain ⟨h3, h4⟩ := steady_el h2
    refine ⟨fun i hi => ?_, h4⟩
    cases i with
    | zero => simpa using h1
    | succ i =>
      have := h3 i (by simpa using hi)
      simpa [Nat.add_assoc, Nat.add_comm 1 i] using this
theorem again_el {o : Oper} {e : Env} {w : World} {G : Prop} (h : again P o e w G) : (∃ t x d, o.op = .load t x ∧ o.dst = some d ∧ (execOp e.ev o).run P w = .ok (.value (e d)) w) ∧ G := by
  obtain ⟨dst, op, type, pos, after, guard⟩ := o
  unfold again at h
  split at h
  · rename_i t x d ho hd
    simp only at ho hd
    subst ho hd
    split at h
    · rename_i a l i hx ht hi
      obtain ⟨h1, du, h2⟩ := tySh_leaf ht
      refine ⟨⟨t, x, d, rfl, rfl, ?_⟩, h.2⟩
      simp only [execOp, hx, Instr.loadAt, Instr.sureAddr, run_bind, pure, Sem.run, run_loadVar_leaf h2 h1 h.1]
    · rename_i a ls i vs hx ht hi hv
      split at h
      · rename_i hn
        obtain ⟨hc, hG⟩ := steady_el h
        obtain ⟨h1, du, h2⟩ := tySh_agg ht
        have hl := run_loadVar_agg (P := P) (w := w) (vs := vs.toList) h2 h1 hi (by simpa using (Nat.eq_of_beq_eq_true hn).symm) (by simpa using hc)
        refine ⟨⟨t, x, d, rfl, rfl, ?_⟩, hG⟩
        simp only [execOp, hx, Instr.loadAt, Instr.sureAddr, run_bind, pure, Sem.run, hl, hv]
      · exact h.elim
    · exact h.elim
  · exact h.elim
/-- at a temporary file: what an operation that was read reads again -/
def St (P : Program) (ops : Array Oper) (k : Nat) (a : Act) (w : World) : Prop :=
  ∀ o, ops[k]? = some o → (Region.wanted o (yielded ops a.tmps) = true → ∀ d, o.dst = some d → (execOp a.eval o).run P w = .ok (.value (ofAct a d)) w)
theorem keepAll_el {ops : Array Oper} {a : Act} {w : World} {G : Prop} : ∀ {ks : List Nat}, keepAll P ops (ofAct a) w ks G → (∀ k ∈ ks, St P ops k a w) ∧ G
  | [], h => ⟨by simp, h⟩
  | k :: r, h => by
    simp only [keepAll] at h
    split at h
    · rename_i o ho
      rcases guardV_el h with ⟨hw, h⟩ | ⟨hw, h⟩
      · obtain ⟨⟨t, x, d, h1, h2, h3⟩, hG⟩ := again_el h
        obtain ⟨h4, h5⟩ := keepAll_el hG
        refine ⟨?_, h5⟩
        intro k' hk'
        simp only [List.mem_cons] at hk'
        rcases hk' with rfl | hk'
        · intro o' ho' _ d' hd'
          rw [ho] at ho'
          obtain rfl := Option.some.inj ho'
          rw [h2] at hd'
          obtain rfl := Option.some.inj hd'
          rw [← ev_ofAct]; exact h3
        · exact h4 k' hk'
      · obtain ⟨h4, h5⟩ := keepAll_el h
        refine ⟨?_, h5⟩
        intro k' hk'
        simp only [List.mem_cons] at hk'
        rcases hk' with rfl | hk'
        · intro o' ho' hw'
          rw [ho] at ho'
          obtain rfl := Option.some.inj ho'
          rw [hw] at hw'; simp at hw'
        · exact h4 k' hk'
    · exact h.elim

theorem vcR_ops (hP : Plain P) {ops : Array Oper} {X : List PanicEntry → World → Prop} {Q : Exit → Act → World → Prop} {n : Nat} {D : List Deferred}
    (hX : ∀ c a w, a.tmps.size = n → a.defers = D → X c w → Q (.panic c) a w) :
    ∀ (r : RI) (a : Act) (w : World) (K : Env → World → Prop) (L2 : List Nat), r.chk n ops = true → a.tmps.size = n → a.defers = D →
      vcR P ops X r (ofAct a) w K →
      (∀ a' w', a'.tmps.size = n → a'.defers = D → (∀ t, t ∉ dsts ops r.idx → ofAct a' t = ofAct a t) → K (ofAct a') w' → wpOpsIn Fence.wide 0 P ops Q L2 a' w') →
      wpOpsIn Fence.wide 0 P ops Q (r.idx ++ L2) a w := by
  intro r
  have one : ∀ (i : Nat) (k : RI) (o : Oper) (a : Act) (w : World) (K : Env → World → Prop) (L2 : List Nat) (Kv : Value → World → Prop) (X' : List PanicEntry → World → Prop), (∀ c w, X' c w → X c w) → ops[i]? = some o → fits n o.dst = true → a.tmps.size = n → a.defers = D → 
      guardV ops o (ofAct a) (opvc P o (ofAct a) w Kv X') (vcR P ops X k ((ofAct a).put o.dst undef) w K) →
      (∀ v w', Kv v w' → vcR P ops X k ((ofAct a).put o.dst v) w' K) →
      (∀ (v : Value) (w' : World), vcR P ops X k (ofAct (a.put o.dst v)) w' K → wpOpsIn Fence.wide 0 P ops Q (k.idx ++ L2) (a.put o.dst v) w') →
      wpOpsIn Fence.wide 0 P ops Q (i :: (k.idx ++ L2)) a w := by
    intro i k o a w K L2 Kv X' hX' ho hf hn hD h hKv hK'
    rw [wpOpsIn_cons]
    unfold wpOpIn
    simp only [ho]
    rcases guardV_el h with ⟨hw, h⟩ | ⟨hw, h⟩
    · rw [hw]
      simp only [if_true]
      refine oper_upon (K := Kv) (X := X') ?_ ?_ ?_
      · intro v w' hh
        have := hKv _ _ hh
        rw [← ofAct_putO (hn ▸ hf)] at this
        exact hK' v w' this
      · intro c w' hh; exact hX c a w' hn hD (hX' _ _ hh)
      · have := opvc_upon hP h
        rw [ev_ofAct] at this
        exact this
    · rw [hw]
      simp only [Bool.false_eq_true, if_false]
      rw [← ofAct_putO (hn ▸ hf)] at h
      exact ⟨fun _ _ => trivial, hK' undef w h⟩
  have hfr : ∀ (i : Nat) (k : RI) (o : Oper) (a : Act), ops[i]? = some o → fits n o.dst = true → a.tmps.size = n → ∀ v t, t ∉ dsts ops (i :: k.idx) → ofAct (a.put o.dst v) t = ofAct a t := by
    intro i k o a ho hf hn v t ht
    rw [ofAct_putO (hn ▸ hf)]
    cases hd : o.dst with
    | none => rfl
    | some d =>
      simp only [Env.put]
      refine set_other fun he => ht ?_
      simp [dsts, ho, hd, he]
  have hsub : ∀ (i : Nat) (k : RI) t, t ∉ dsts ops (i :: k.idx) → t ∉ dsts ops k.idx := by
    intro i k t ht hh
    apply ht
    simp only [dsts]
    split <;> simp [hh]
  induction r with
  | nil => intro a w K L2 _ hn hD h hK; exact hK a w hn hD (fun _ _ => rfl) h
  | lt i k ih =>
    intro a w K L2 hc hn hD h hK
    simp only [vcR] at h
    simp only [RI.chk, Bool.and_eq_true] at hc
    simp only [RI.idx, List.cons_append]
    split at h
    · exact h.elim
    · rename_i o ho
      have hf : fits n o.dst = true := by simpa [ho] using hc.1
      refine one i k o a w K L2 (fun v w' => vcR P ops X k ((ofAct a).put o.dst v) w' K) (fun _ _ => False) (fun _ _ h => h.elim) ho hf hn hD ?_ (fun _ _ h => h) ?_
      · rcases hg : lightOk P o (ofAct a) with _ | _
        · rw [hg] at h
          unfold guardV at h ⊢
          (repeat' split at h) <;> first | exact h.elim | (simp_all; done)
        · rw [hg] at h; exact h
      · intro v w' hh
        refine ih (a.put o.dst v) w' K L2 hc.2 (size_put.trans hn) (defers_put.trans hD) hh ?_
        intro a' w'' h1 h2 h3 h4
        exact hK a' w'' h1 h2 (fun t ht => (h3 t (hsub i k t ht)).trans (hfr i k o a ho hf hn v t ht)) h4
  | op i keep k ih =>
    intro a w K L2 hc hn hD h hK
    simp only [vcR] at h
    simp only [RI.chk, Bool.and_eq_true] at hc
    simp only [RI.idx, List.cons_append]
    split at h
    · exact h.elim
    · rename_i o ho
      have hf : fits n o.dst = true := by simpa [ho] using hc.1
      refine one i k o a w K L2 (fun v w' => keepAll P ops ((ofAct a).put o.dst v) w' keep (vcR P ops X k ((ofAct a).put o.dst v) w' K)) X (fun _ _ h => h) ho hf hn hD h ?_ ?_
      · intro v w' hh
        rw [← ofAct_putO (hn ▸ hf)] at hh ⊢
        exact (keepAll_el hh).2
      · intro v w' hh
        refine ih (a.put o.dst v) w' K L2 hc.2 (size_put.trans hn) (defers_put.trans hD) hh ?_
        intro a' w'' h1 h2 h3 h4
        exact hK a' w'' h1 h2 (fun t ht => (h3 t (hsub i k t ht)).trans (hfr i k o a ho hf hn v t ht)) h4
  | split s body W L k ihb ihk =>
    intro a w K L2 hc hn hD h hK
    simp only [vcR] at h
    simp only [RI.chk, Bool.and_eq_true, List.all_eq_true] at hc
    obtain ⟨⟨⟨hW, hcb⟩, hck⟩, _⟩ := hc
    have hWf : ∀ t, W.testBit t = false → t ∉ dsts ops body.idx := fun t ht hh => by rw [hW t hh] at ht; simp at ht
    split at h
    rotate_left
    · simp only [RI.idx, List.append_assoc]
      refine ihb a w _ (k.idx ++ L2) hcb hn hD h ?_
      intro a' w' g1 g2 g3 g4
      refine ihk a' w' K L2 hck g1 g2 g4 ?_
      intro a'' w'' k1 k2 k3 k4
      refine hK a'' w'' k1 k2 (fun t ht => ?_) k4
      simp only [RI.idx, dsts_append, not_or] at ht
      exact (k3 t ht.2).trans (g3 t ht.1)
    rename_i b hb
    have hM := meet_el (fun e' w' => ∀ a', ofAct a' = e' → a'.tmps.size = n → a'.defers = D → (∀ t, t ∉ dsts ops body.idx → ofAct a' t = ofAct a t) → wpOpsIn Fence.wide 0 P ops Q (k.idx ++ L2) a' w') (by
      intro e' w' hf hh a' he h1 h2 h3
      subst he
      refine ihk a' w' K L2 hck h1 h2 hh ?_
      intro a'' w'' g1 g2 g3 g4
      refine hK a'' w'' g1 g2 (fun t ht => ?_) g4
      simp only [RI.idx, dsts_append, not_or] at ht
      exact (g3 t ht.2).trans (h3 t ht.1)) h
    simp only [RI.idx, List.append_assoc]
    have hgo : ∀ b : Bool, ofAct a s = .bool b → (vcR P ops X body ((ofAct a).set s (.bool b)) w fun e' w' => (∀ e'', gets e'' L = gets e' L → (∀ t, W.testBit t = false → e'' t = ofAct a t) →
        ∀ a', ofAct a' = e'' → a'.tmps.size = n → a'.defers = D → (∀ t, t ∉ dsts ops body.idx → ofAct a' t = ofAct a t) → wpOpsIn Fence.wide 0 P ops Q (k.idx ++ L2) a' w')) → wpOpsIn Fence.wide 0 P ops Q (body.idx ++ (k.idx ++ L2)) a w := by
      intro b hb hh
      rw [set_self hb] at hh
      refine ihb a w _ (k.idx ++ L2) hcb hn hD hh ?_
      intro a'' w'' g1 g2 g3 g4
      exact g4 (ofAct a'') rfl (fun t ht => g3 t (hWf t ht)) a'' rfl g1 g2 g3
    cases b
    · exact hgo false hb hM
    · exact hgo true hb hM
  | alt a b iha ihb =>
    intro a' w K L2 hc hn hD h hK
    simp only [RI.chk, Bool.and_eq_true] at hc
    exact iha a' w K L2 hc.1.1 hn hD h.1 hK
end Go.Vc
