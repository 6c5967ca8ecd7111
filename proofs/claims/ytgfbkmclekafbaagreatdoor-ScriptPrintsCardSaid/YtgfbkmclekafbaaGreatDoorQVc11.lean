/- A region that draws its order: one order stands for all. -/
import Derived.Test.YtgfbkmclekafbaaGreatDoorQVc10
set_option linter.unusedVariables false
set_option linter.unusedSimpArgs false
set_option linter.unnecessarySimpa false
namespace Go.Vc
open Go
variable {P : Program}

structure It where
  light : Bool
  i : Nat
  keep : List Nat
/-- the orders that are gone through -/
inductive Tr where
  | nil
  | it (x : It) (k : Tr)
  | alt (a b : Tr)
def RI.tree : RI → Tr → Tr
  | .nil, t => t
  | .lt i k, t => .it ⟨true, i, []⟩ (k.tree t)
  | .op i keep k, t => .it ⟨false, i, keep⟩ (k.tree t)
  | .split _ body _ _ k, t => body.tree (k.tree t)
  | .alt a b, t => .alt (a.tree t) (b.tree t)

def wpC (P : Program) (ops : Array Oper) (Q : Exit → Act → World → Prop) (X : List PanicEntry → World → Prop) : Tr → Act → World → Prop
  | .nil, a, w => Q .normal a w
  | .alt c d, a, w => wpC P ops Q X c a w ∧ wpC P ops Q X d a w
  | .it it c, a, w => ∃ o, ops[it.i]? = some o ∧
    ((Region.wanted o (yielded ops a.tmps) = false ∧ wpC P ops Q X c (a.put o.dst undef) w) ∨
     (Region.wanted o (yielded ops a.tmps) = true ∧
      ((it.light = true ∧ ∃ v, (execOp a.eval o).run P w = .ok (.value v) w ∧ (isLoad o = false → ∀ w', (execOp a.eval o).run P w' = .ok (.value v) w') ∧ wpC P ops Q X c (a.put o.dst v) w) ∨
       (it.light = false ∧ upon P (fun v w' => (∀ k ∈ it.keep, St P ops k (a.put o.dst v) w') ∧ wpC P ops Q X c (a.put o.dst v) w') X ((execOp a.eval o).run P w)))))

theorem vcR_wpC (hP : Plain P) {ops : Array Oper} {X : List PanicEntry → World → Prop} {Q : Exit → Act → World → Prop} {n : Nat} {D : List Deferred} :
    ∀ (r : RI) (a : Act) (w : World) (K : Env → World → Prop) (L2 : Tr), r.chk n ops = true → a.tmps.size = n → a.defers = D →
      vcR P ops X r (ofAct a) w K →
      (∀ a' w', a'.tmps.size = n → a'.defers = D → (∀ t, t ∉ dsts ops r.idx → ofAct a' t = ofAct a t) → K (ofAct a') w' → wpC P ops Q X L2 a' w') →
      wpC P ops Q X (r.tree L2) a w := by
  intro r
  have hfr : ∀ (i : Nat) (k : RI) (o : Oper) (a : Act), ops[i]? = some o → fits n o.dst = true → a.tmps.size = n → ∀ v t, t ∉ dsts ops (i :: k.idx) → ofAct (a.put o.dst v) t = ofAct a t := by
    intro i k o a ho hf hn v t ht
    rw [ofAct_putO (hn ▸ hf)]
    cases hd : o.dst with
    | none => rfl
    | some d =>
      simp only [Env.put]
      refine set_other fun he => ht ?_
      simp [dsts, ho, hd, he]
  have hsub : ∀ (i : Nat) (k : RI) t, t ∉ dsts ops (i :: k.idx) → t ∉ dsts ops k.idx := by
    intro i k t ht hh
    apply ht
    simp only [dsts]
    split <;> simp [hh]
  induction r with
  | nil => intro a w K L2 _ hn hD h hK; exact hK a w hn hD (fun _ _ => rfl) h
  | lt i k ih =>
    intro a w K L2 hc hn hD h hK
    simp only [vcR] at h
    simp only [RI.chk, Bool.and_eq_true] at hc
    split at h
    · exact h.elim
    · rename_i o ho
      have hf : fits n o.dst = true := by simpa [ho] using hc.1
      have hK' : ∀ (v : Value) (w' : World), vcR P ops X k ((ofAct a).put o.dst v) w' K → wpC P ops Q X (k.tree L2) (a.put o.dst v) w' := by
        intro v w' hh
        rw [← ofAct_putO (hn ▸ hf)] at hh
        refine ih (a.put o.dst v) w' K L2 hc.2 (size_put.trans hn) (defers_put.trans hD) hh ?_
        intro a' w'' h1 h2 h3 h4
        exact hK a' w'' h1 h2 (fun t ht => (h3 t (hsub i k t ht)).trans (hfr i k o a ho hf hn v t ht)) h4
      refine ⟨o, ho, ?_⟩
      rcases guardV_el h with ⟨hw, h⟩ | ⟨hw, h⟩
      · rcases hg : lightOk P o (ofAct a) with _ | _
        · rw [hg] at h; exact h.elim
        · rw [hg] at h
          obtain ⟨v, h1, h2, h3⟩ := light_sem hP hg h
          rw [ev_ofAct] at h1 h2
          exact .inr ⟨hw, .inl ⟨rfl, v, h1, h2, hK' v w h3⟩⟩
      · exact .inl ⟨hw, hK' undef w h⟩
  | op i keep k ih =>
    intro a w K L2 hc hn hD h hK
    simp only [vcR] at h
    simp only [RI.chk, Bool.and_eq_true] at hc
    split at h
    · exact h.elim
    · rename_i o ho
      have hf : fits n o.dst = true := by simpa [ho] using hc.1
      have hK' : ∀ (v : Value) (w' : World), vcR P ops X k ((ofAct a).put o.dst v) w' K → wpC P ops Q X (k.tree L2) (a.put o.dst v) w' := by
        intro v w' hh
        rw [← ofAct_putO (hn ▸ hf)] at hh
        refine ih (a.put o.dst v) w' K L2 hc.2 (size_put.trans hn) (defers_put.trans hD) hh ?_
        intro a' w'' h1 h2 h3 h4
        exact hK a' w'' h1 h2 (fun t ht => (h3 t (hsub i k t ht)).trans (hfr i k o a ho hf hn v t ht)) h4
      refine ⟨o, ho, ?_⟩
      rcases guardV_el h with ⟨hw, h⟩ | ⟨hw, h⟩
      · refine .inr ⟨hw, .inr ⟨rfl, ?_⟩⟩
        have := opvc_upon hP h
        rw [ev_ofAct] at this
        refine upon_mono (fun v w' hh => ?_) (fun _ _ h => h) this
        have h1 := hh
        rw [← ofAct_putO (hn ▸ hf)] at h1
        have h2 := keepAll_el h1
        refine ⟨h2.1, hK' v w' ?_⟩
        rw [← ofAct_putO (hn ▸ hf)]; exact h2.2
      · exact .inl ⟨hw, hK' undef w h⟩
  | split s body W L k ihb ihk =>
    intro a w K L2 hc hn hD h hK
    simp only [vcR] at h
    simp only [RI.chk, Bool.and_eq_true, List.all_eq_true] at hc
    obtain ⟨⟨⟨hW, hcb⟩, hck⟩, _⟩ := hc
    have hWf : ∀ t, W.testBit t = false → t ∉ dsts ops body.idx := fun t ht hh => by rw [hW t hh] at ht; simp at ht
    split at h
    rotate_left
    · simp only [RI.tree]
      refine ihb a w _ (k.tree L2) hcb hn hD h ?_
      intro a' w' g1 g2 g3 g4
      refine ihk a' w' K L2 hck g1 g2 g4 ?_
      intro a'' w'' k1 k2 k3 k4
      refine hK a'' w'' k1 k2 (fun t ht => ?_) k4
      simp only [RI.idx, dsts_append, not_or] at ht
      exact (k3 t ht.2).trans (g3 t ht.1)
    rename_i b hb
    have hM := meet_el (fun e' w' => ∀ a', ofAct a' = e' → a'.tmps.size = n → a'.defers = D → (∀ t, t ∉ dsts ops body.idx → ofAct a' t = ofAct a t) → wpC P ops Q X (k.tree L2) a' w') (by
      intro e' w' hf hh a' he h1 h2 h3
      subst he
      refine ihk a' w' K L2 hck h1 h2 hh ?_
      intro a'' w'' g1 g2 g3 g4
      refine hK a'' w'' g1 g2 (fun t ht => ?_) g4
      simp only [RI.idx, dsts_append, not_or] at ht
      exact (g3 t ht.2).trans (h3 t ht.1)) h
    simp only [RI.tree]
    have hgo : ∀ b : Bool, ofAct a s = .bool b → (vcR P ops X body ((ofAct a).set s (.bool b)) w fun e' w' => (∀ e'', gets e'' L = gets e' L → (∀ t, W.testBit t = false → e'' t = ofAct a t) →
        ∀ a', ofAct a' = e'' → a'.tmps.size = n → a'.defers = D → (∀ t, t ∉ dsts ops body.idx → ofAct a' t = ofAct a t) → wpC P ops Q X (k.tree L2) a' w')) → wpC P ops Q X (body.tree (k.tree L2)) a w := by
      intro b hb hh
      rw [set_self hb] at hh
      refine ihb a w _ (k.tree L2) hcb hn hD hh ?_
      intro a'' w'' g1 g2 g3 g4
      exact g4 (ofAct a'') rfl (fun t ht => g3 t (hWf t ht)) a'' rfl g1 g2 g3
    cases b
    · exact hgo false hb hM
    · exact hgo true hb hM
  | alt c d ihc ihd =>
    intro a w K L2 hc hn hD h hK
    simp only [RI.chk, Bool.and_eq_true, List.all_eq_true] at hc
    refine ⟨ihc a w K L2 hc.1.1 hn hD h.1 hK, ihd a w K L2 hc.1.2 hn hD h.2 fun a' w' h1 h2 h3 h4 => hK a' w' h1 h2 (fun t ht => h3 t fun hh => ht ?_) h4⟩
    have := hc.2 t hh
    show t ∈ dsts ops c.idx
    simpa using this

/-- what must hold of two operations, the first ahead of the second in the order that is gone through -/
def pairOk (ops : Array Oper) (anc : Nat → Nat → Bool) (p q : It) : Bool :=
  match ops[p.i]?, ops[q.i]? with
  | some x, some y => !anc p.i q.i && p.i != q.i &&
    (if p.light then
      (anc q.i p.i && (!q.light || (match y.dst with | some d => !(x.looksAt ops).contains d && x.dst != some d | none => true))) ||
      (!anc q.i p.i && x.apart ops y && (q.light || !isLoad x || q.keep.contains p.i))
     else false)
  | _, _ => false
def Tr.heads : Tr → List Nat
  | .nil => []
  | .it x _ => [x.i]
  | .alt a b => a.heads ++ b.heads
/-- whatever is left waits for one of these -/
def cover (anc : Nat → Nat → Bool) (S H : List Nat) : Bool := S.all fun q => H.contains q || H.any fun h => anc q h
mutual
def Tr.ok (ops : Array Oper) (anc : Nat → Nat → Bool) (F : List It) (S : List Nat) : Tr → Bool
  | .nil => S.isEmpty
  | .it x k => S.contains x.i && F.all (fun y => pairOk ops anc y x) && (if x.light then k.ok ops anc (x :: F) (S.filter (· != x.i)) else cover anc S [x.i] && k.ok ops anc F (S.filter (· != x.i)))
  | .alt a b => cover anc S (a.heads ++ b.heads) && a.okAlt ops anc F S && b.okAlt ops anc F S
def Tr.okAlt (ops : Array Oper) (anc : Nat → Nat → Bool) (F : List It) (S : List Nat) : Tr → Bool
  | .nil => false
  | .it x k => !x.light && S.contains x.i && F.all (fun y => pairOk ops anc y x) && k.ok ops anc F (S.filter (· != x.i))
  | .alt a b => a.okAlt ops anc F S && b.okAlt ops anc F S
end
def ancOk (ops : Array Oper) (anc : Nat → Nat → Bool) : Bool :=
  (List.range ops.size).all fun k => match ops[k]? with
    | some o => (o.after.all fun e => !Region.binds .any e || decide (e.on < k)) &&
      (List.range ops.size).all fun i => !anc k i || o.after.any fun e => Region.binds .any e && (e.on == i || anc e.on i)
    | none => true
def drawChk (ops : Array Oper) (anc : Nat → Nat → Bool) (t : Tr) : Bool :=
  ancOk ops anc && t.ok ops anc [] (List.range ops.size) && Region.noSelect ops

theorem same_run {ops : Array Oper} (hs : ∀ (j : Nat) (o : Oper) cs b, ops[j]? = some o → o.op ≠ .select cs b) {j : Nat} {o : Oper} {a0 a : Act} (ho : ops[j]? = some o) (h : ∀ t ∈ o.looksAt ops, ofAct a0 t = ofAct a t) :
    execOp a0.eval o = execOp a.eval o ∧ Region.wanted o (yielded ops a0.tmps) = Region.wanted o (yielded ops a.tmps) := by
  constructor
  · refine execOp_congr o (fun cs b => hs j o cs b ho) fun x hx => ?_
    cases x with
    | tmp t =>
      exact h t (by
        unfold Oper.looksAt
        refine List.mem_append_left _ (List.mem_filterMap.2 ⟨.tmp t, by simpa using hx, rfl⟩))
    | _ => rfl
  · unfold Region.wanted
    split
    · rfl
    · rename_i g want hg
      rw [yielded_eq, yielded_eq]
      cases hd : (ops[g]?).bind (·.dst) with
      | none => rfl
      | some d =>
        simp only
        rw [h d (by
          unfold Oper.looksAt
          refine List.mem_append_right _ ?_
          rw [hg]; simp [hd])]
end Go.Vc
