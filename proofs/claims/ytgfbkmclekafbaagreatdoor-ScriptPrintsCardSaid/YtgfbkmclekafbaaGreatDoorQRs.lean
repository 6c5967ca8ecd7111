/- Pieces of a body, the bodies of rounds, and the statement of a range over a function, read. No program in sight. -/
import Derived.Test.YtgfbkmclekafbaaGreatDoorQRf
import Derived.RecoverIn
set_option linter.unusedVariables false
set_option linter.unusedSimpArgs false
set_option linter.unnecessarySimpa false
namespace Go.Vc
open Go
variable {P : Program}

def _root_.Go.Code.pl : Code → Code
  | .seq a _ => a | .cond _ a _ => a | .block _ a => a | .loop a => a | .scope a => a | .rangeFunc _ _ a _ => a | c => c
def _root_.Go.Code.pr : Code → Code
  | .seq _ b => b | .cond _ _ b => b | .rangeFunc _ _ _ b => b | c => c

/-- what is asked behind a piece: of the temporaries 'outs' -/
def pieceQ (outs : List Nat) (N : List Value → World → Prop) (R : World → Prop) (X : List PanicEntry → World → Prop) : Post
  | .normal, e, w => N (outs.map e) w
  | .ret, _, w => R w
  | .panic c, _, w => X c w
  | _, _, _ => False
theorem pieceQ_ok {outs : List Nat} {N : List Value → World → Prop} {R : World → Prop} {X : List PanicEntry → World → Prop} : PanicOk (pieceQ outs N R X) := fun _ _ _ _ h => h

theorem piece_wp (hG : GoodP P) {n : Nat} {D : List Deferred} {c : Code} {ann : Ann} {outs : List Nat} {N : List Value → World → Prop} {R : World → Prop} {X : List PanicEntry → World → Prop} {Q : Exit → Act → World → Prop} {a : Act} {w : World}
    (hc : (chk n ann c && draws (drawAll n) ann c) = true) (hn : a.tmps.size = n) (hD : a.defers = D) (h : vc P ann c (pieceQ outs N R X) (ofAct a) w)
    (hN : ∀ a' w', a'.tmps.size = n → a'.defers = D → (∀ t, t ∉ wrs c → ofAct a' t = ofAct a t) → N (outs.map (ofAct a')) w' → Q .normal a' w')
    (hR : ∀ a' w', a'.tmps.size = n → a'.defers = D → (∀ t, t ∉ wrs c → ofAct a' t = ofAct a t) → R w' → Q .ret a' w')
    (hX : ∀ ch a' w', a'.tmps.size = n → a'.defers = D → X ch w' → Q (.panic ch) a' w') : c.wp P Q a w := by
  simp only [Bool.and_eq_true] at hc
  refine wp_mono (vc_sound hG.plain n (drawAll n) (fun d ops r h hd => drawOk_of hG.plain hG.mixed h hd) D c ann _ a w pieceQ_ok hc.1 hc.2 hn hD h) ?_
  intro x a' w' hx
  obtain ⟨h1, h2, h3, h4⟩ := hx
  cases x with
  | normal => exact hN a' w' h1 h2 (h3 rfl) h4
  | ret => exact hR a' w' h1 h2 (h3 rfl) h4
  | panic ch => exact hX ch a' w' h1 h2 h4
  | exit id => exact h4.elim
  | goto l => exact h4.elim
  | outgrown => exact h4.elim

/-! ### in a round's frame -/
theorem roundsIn_round {l m m' l' : Nat} {f : FuncId} {tmps : Array Value} {assign body : Code} {w : World} {R : Ending → World → Prop} (h : RoundIn Fence.wide m P l' f tmps assign body w R) : RoundIn (Fence.wide.inRound l) m' P l' f tmps assign body w R :=
  ⟨trivial, fun c cs _ => let ⟨e, w', r, s⟩ := h.2 c cs (room_wide _); ⟨e, w', r, comesIn_inRound.2 (comesIn_wide.1 s)⟩⟩
theorem uponIn_round {l m : Nat} {o : Oper} {a : Act} {N N' : Act → World → Prop} {Q : Exit → Act → World → Prop} (hN : ∀ a w, N a w → N' a w) (r : Result Next) (h : o.uponIn Fence.wide 0 P a N Q r) : o.uponIn (Fence.wide.inRound l) m P a N' Q r := by
  cases r with
  | ok x w =>
    cases x with
    | value v => exact hN _ _ h
    | skip => exact hN _ _ h
    | defer d => exact hN _ _ h
    | enter f args =>
      refine ⟨fun hd => by simp [Fence.wide, Fence.inRound] at hd, (callsIn_inRound (callsIn_wide.1 h.2)).mono ?_⟩
      intro e w' he
      cases e with
      | returned v => exact hN _ _ he
      | panicked chain => exact he
      | outgrown => exact he
    | row row args =>
      refine ⟨fun hd => by simp [Fence.wide, Fence.inRound] at hd, fun c cs _ => ?_⟩
      obtain ⟨v, w', hv, hs⟩ := h.2 c cs (room_wide _)
      exact ⟨v, w', hN _ _ hv, stepsIn_inRound.2 (stepsIn_wide.1 hs)⟩
    | round l' f tmps assign body =>
      refine ⟨fun hd => by simp [Fence.wide, Fence.inRound] at hd, (roundsIn_round h.2).mono ?_⟩
      intro e w' he
      cases e with
      | returned v => exact hN _ _ he
      | panicked chain => exact he
      | outgrown => exact he
    | _ => exact h.elim
  | halt y w =>
    cases y with
    | panic v => exact h
    | _ => exact h.elim
def noDefer (ops : Array Oper) : Bool := ops.all fun o => match o.op with | .defer _ => false | _ => true
theorem noDefer_el {ops : Array Oper} (h : noDefer ops = true) (i : Nat) (o : Oper) (ho : ops[i]? = some o) (c : Call) : o.op ≠ .defer c := by
  intro hc
  have := Array.all_eq_true'.1 h o (Array.mem_of_getElem? ho)
  rw [hc] at this
  simp at this
theorem ops_round {l m : Nat} {ops : Array Oper} {Q : Exit → Act → World → Prop} (hd : noDefer ops = true) :
    ∀ (r : List Nat) (a : Act) (w : World), wpOpsIn Fence.wide 0 P ops Q r a w → wpOpsIn (Fence.wide.inRound l) m P ops Q r a w
  | [], a, w, h => h
  | i :: r, a, w, h => by
    unfold wpOpsIn at h ⊢
    cases ho : ops[i]? with
    | none => rw [ho] at h; exact ops_round hd r a w h
    | some o =>
      rw [ho] at h
      simp only at h ⊢
      split at h
      · rename_i hw
        rw [if_pos hw]
        refine ⟨fun _ _ => trivial, ?_⟩
        have h := h.2
        rw [show Fence.wide.round = none from rfl, Oper.semAt_none] at h
        rw [Fence.inRound_round, semAt_plain (noDefer_el hd i o ho)]
        exact uponIn_round (fun a w => ops_round hd r a w) _ h
      · rename_i hw
        rw [if_neg hw]
        exact ⟨fun _ _ => trivial, ops_round hd r _ w h.2⟩
/-- code that a round may go through here: no drawn region, no defer statement, no loop -/
def calm : Code → Bool
  | .region _ ops d => !d && noDefer ops
  | .seq a b => calm a && calm b
  | .cond _ a b => calm a && calm b
  | .block _ a => calm a
  | .skip | .label _ | .exit _ | .ret => true
  | _ => false
theorem vc_in (hP : Plain P) (l m n : Nat) (D : List Deferred) :
    ∀ (c : Code) (ann : Ann) (Q : Post) (a : Act) (w : World), PanicOk Q → chk n ann c = true → calm c = true → a.tmps.size = n → a.defers = D → vc P ann c Q (ofAct a) w →
      c.wpIn (Fence.wide.inRound l) m P (LQ n D Q (wrs c) a) a w := by
  intro c
  induction c with
  | skip =>
    intro ann Q a w hQ hc hd hn hD h
    cases ann <;> simp only [vc] at h
    exact wpIn_skip ⟨hn, hD, fun _ _ _ => rfl, h⟩
  | label l =>
    intro ann Q a w hQ hc hd hn hD h
    cases ann <;> simp only [vc] at h
    exact wpIn_label ⟨hn, hD, fun _ _ _ => rfl, h⟩
  | exit id =>
    intro ann Q a w hQ hc hd hn hD h
    cases ann <;> simp only [vc] at h
    exact wpIn_exit ⟨hn, hD, fun _ _ _ => rfl, h⟩
  | ret =>
    intro ann Q a w hQ hc hd hn hD h
    cases ann <;> simp only [vc] at h
    exact wpIn_ret ⟨hn, hD, fun _ _ _ => rfl, h⟩
  | goto l => intro ann Q a w hQ hc hd hn hD h; simp [calm] at hd
  | refuse l => intro ann Q a w hQ hc hd hn hD h; simp [calm] at hd
  | rangeFunc f ps x y _ _ => intro ann Q a w hQ hc hd hn hD h; simp [calm] at hd
  | loop c _ => intro ann Q a w hQ hc hd hn hD h; simp [calm] at hd
  | scope c _ => intro ann Q a w hQ hc hd hn hD h; simp [calm] at hd
  | region id ops draw =>
    intro ann Q a w hQ hc hd hn hD h
    cases ann <;> try (simp only [vc] at h; done)
    rename_i r
    simp only [chk, Bool.and_eq_true] at hc
    simp only [calm, Bool.and_eq_true, Bool.not_eq_true'] at hd
    obtain ⟨rfl, hnd⟩ := hd
    simp only [vc] at h
    have hidx : r.idx = List.range ops.size := by simpa using hc.2
    refine wpIn_region (ops_round hnd _ _ _ ?_)
    have := vcR_ops (Q := LQ n D Q (wrs (.region id ops false)) a) hP (D := D) (fun c a' w' h1 h2 h3 => ⟨h1, h2, by simp [isPanic], hQ _ _ _ _ h3⟩) r a w _ [] hc.1 hn hD h
      (fun a' w' h1 h2 h3 h4 => ⟨h1, h2, fun _ t ht => h3 t (by rw [hidx]; exact ht), h4⟩)
    rw [List.append_nil, hidx] at this
    exact this
  | seq c d ihc ihd =>
    intro ann Q a w hQ hc hd hn hD h
    simp only [calm, Bool.and_eq_true] at hd
    cases ann <;> try (simp only [vc] at h; done)
    · rename_i A B
      simp only [vc] at h
      simp only [chk, Bool.and_eq_true] at hc
      refine wpIn_seq (wpIn_mono (ihc A _ a w ?_ hc.1 hd.1 hn hD h) ?_)
      · intro c e e' w h; exact hQ _ _ _ _ h
      · intro x a' w' hx
        obtain ⟨h1, h2, h3, h4⟩ := hx
        cases x with
        | normal =>
          refine wpIn_mono (ihd B Q a' w' hQ hc.2 hd.2 h1 h2 h4) ?_
          intro x a'' w'' hh
          refine LQ_mono (fun hx t ht => ?_) id hh
          simp only [wrs, List.mem_append, not_or] at ht
          exact ⟨ht.2, h3 rfl t ht.1⟩
        | _ => exact ⟨h1, h2, fun hx t ht => h3 hx t (fun hh => ht (by simp [wrs, hh])), h4⟩
    · rename_i W L A B
      simp only [vc] at h
      simp only [chk, Bool.and_eq_true, List.all_eq_true] at hc
      have hWf : ∀ t, W.testBit t = false → t ∉ wrs c := fun t ht hh => by rw [hc.1.1 t hh] at ht; simp at ht
      have hM := meet_el (fun e' w' => ∀ a', ofAct a' = e' → a'.tmps.size = n → a'.defers = D → (∀ t, t ∉ wrs c → ofAct a' t = ofAct a t) → d.wpIn (Fence.wide.inRound l) m P (LQ n D Q (wrs (.seq c d)) a) a' w') (by
        intro e' w' hf hh a' he h1 h2 h3
        subst he
        refine wpIn_mono (ihd B Q a' w' hQ hc.2 hd.2 h1 h2 hh) ?_
        intro x a'' w'' hh
        refine LQ_mono (fun hx t ht => ?_) id hh
        simp only [wrs, List.mem_append, not_or] at ht
        exact ⟨ht.2, h3 t ht.1⟩) h
      refine wpIn_seq (wpIn_mono (ihc A _ a w ?_ hc.1.2 hd.1 hn hD hM) ?_)
      · intro c e e' w h; exact hQ _ _ _ _ h
      · intro x a' w' hx
        obtain ⟨h1, h2, h3, h4⟩ := hx
        cases x with
        | normal => exact h4 (ofAct a') rfl (fun t ht => h3 rfl t (hWf t ht)) a' rfl h1 h2 (fun t ht => h3 rfl t ht)
        | _ => exact ⟨h1, h2, fun hx t ht => h3 hx t (fun hh => ht (by simp [wrs, hh])), h4⟩
  | cond x c d ihc ihd =>
    intro ann Q a w hQ hc hd hn hD h
    simp only [calm, Bool.and_eq_true] at hd
    cases ann <;> try (simp only [vc] at h; done)
    rename_i A B
    simp only [vc, onB] at h
    simp only [chk, Bool.and_eq_true] at hc
    split at h
    · rename_i b hb
      have h := cnd_e h
      rw [ev_ofAct] at hb
      refine wpIn_cond_split hb (fun ht => ?_) (fun ht => ?_)
      · refine wpIn_mono (ihc A Q a w hQ hc.1 hd.1 hn hD (h.1 ht)) ?_
        intro x a'' w'' hh
        exact LQ_mono (fun hx t ht => ⟨fun hh => ht (by simp [wrs, hh]), rfl⟩) id hh
      · refine wpIn_mono (ihd B Q a w hQ hc.2 hd.2 hn hD (h.2 ht)) ?_
        intro x a'' w'' hh
        exact LQ_mono (fun hx t ht => ⟨fun hh => ht (by simp [wrs, hh]), rfl⟩) id hh
    · exact h.elim
  | block id c ih =>
    intro ann Q a w hQ hc hd hn hD h
    simp only [calm] at hd
    cases ann <;> try (simp only [vc] at h; done)
    rename_i A
    simp only [vc] at h
    refine wpIn_block (wpIn_mono (ih A _ a w ?_ hc hd hn hD h) ?_)
    · intro c e e' w h; exact hQ _ _ _ _ h
    · intro x a' w' hx
      obtain ⟨h1, h2, h3, h4⟩ := hx
      cases x with
      | exit i =>
        simp only [inBlk] at h4
        simp only [Exit.inBlock]
        cases hb : Nat.beq i id with
        | true =>
          rw [hb] at h4
          rw [if_pos (Nat.eq_of_beq_eq_true hb)]
          exact ⟨h1, h2, fun hx t ht => h3 rfl t ht, h4⟩
        | false =>
          rw [hb] at h4
          rw [if_neg (fun he => by subst he; simp at hb)]
          exact ⟨h1, h2, fun hx t ht => h3 rfl t ht, h4⟩
      | _ => exact ⟨h1, h2, h3, h4⟩

/-- a round whose body neither leaves the loop nor returns: the record, ready, is busy while it goes, and ready again -/
theorem round_el (hG : GoodP P) {l n : Nat} {r : Loop} {tmps : Array Value} {A B : Ann} {outs : List Nat} {N : List Value → World → Prop} {w : World} {R : Ending → World → Prop} {fn : Func} (hfn : P.funcs[r.fn]? = some fn)
    (hc : (chk n A r.assign && chk n B r.body && calm r.assign && calm r.body) = true) (hn : tmps.size = n)
    (h : vc P A r.assign (pieceQ outs N (fun _ => False) (fun _ _ => False)) (ofAct ⟨tmps, []⟩) w)
    (hN : ∀ a1 w1, (∀ t, t ∉ wrs r.assign → ofAct a1 t = ofAct ⟨tmps, []⟩ t) → N (outs.map (ofAct a1)) w1 → w1.heap[l]? = some (.loop r) ∧ r.state = .ready ∧
      vc P B r.body (pieceQ [] (fun _ w2 => ∃ r', w2.heap[l]? = some (.loop r') ∧ R (.returned (.bool true)) (w2.putObj l (.loop { r' with state := .ready, pending := none }))) (fun _ => False) (fun ch w2 => R (.panicked ch) w2)) (ofAct a1) (w1.putObj l (.loop { r with state := .busy }))) :
    RoundIn Fence.wide 0 P l r.fn tmps r.assign r.body w R := by
  simp only [Bool.and_eq_true] at hc
  obtain ⟨⟨⟨c1, c2⟩, c3⟩, c4⟩ := hc
  refine roundIn_p hfn trivial ?_
  refine wpIn_mono (vc_in hG.plain l 0 n [] r.assign A _ ⟨tmps, []⟩ w pieceQ_ok c1 c3 hn rfl h) ?_
  intro x a1 w1 hx
  obtain ⟨s1, d1, hu, hx⟩ := hx
  cases x <;> try (exact hx.elim)
  obtain ⟨hl, hr, hx⟩ := hN a1 w1 (hu rfl) hx
  refine ⟨_, run_beginRound hl hr, ?_⟩
  refine wpIn_mono (vc_in hG.plain l 0 n [] r.body B _ a1 _ pieceQ_ok c2 c4 s1 d1 hx) ?_
  intro y a2 w2 hy
  obtain ⟨s2, d2, _, hy⟩ := hy
  cases y <;> try (exact hy.elim)
  · obtain ⟨r', hl', hR⟩ := hy
    exact ⟨_, _, run_endRound none hl', hR⟩
  · exact ⟨d2, hy⟩

theorem callV_yield {l : Nat} {r : Loop} {x : Value} {w : World} {K : Value → World → Prop} {X : List PanicEntry → World → Prop} {t : Tmp} (hl : w.heap[l]? = some (.loop r)) (hp : r.params = #[t])
    (h : RoundIn Fence.wide 0 P l r.fn (r.tmps.setIfInBounds t x) r.assign r.body w (onRet K X)) : callV P (.func (.yield l) #[] #[]) [x] w K X := by
  unfold callV
  have hof : (Deferred.ofValue (.func (.yield l) #[] #[]) [x].toArray).run P w = .ok { target := .fn (.yield l) #[], args := #[x] } w := by simp [Deferred.ofValue]
  simp only [Sem.run_bind, hof, Result.andThen]
  have : (invoke (.fn (.yield l) #[]) #[x]).run P w = .ok (.round l r.fn (r.tmps.setIfInBounds t x) r.assign r.body) w := by
    have := run_yield (P := P) (args := #[x]) hl (by rw [hp]; rfl)
    rw [hp] at this
    show (Instr.yield l #[x]).run P w = _
    rw [this]
    simp
  rw [this]
  exact h

theorem callF_ok (hP : Plain P) {f : FuncId} {fn : Func} {c : Code} (hf : P.funcs[f]? = some fn) (hb : fn.body = some c) (args : Array Value) (w : World) : (callFunc f args).run P w = .ok (.enter f args) w := by
  unfold callFunc
  rw [run_bind]
  simp only [program, Sem.run, pure, hf, hP f fn hf, hb]
  rfl
/-! ### in a frame of one function: what a round's panic asks -/
def _root_.Go.Code.wpK (k : FuncId) (P : Program) (c : Code) (Q : Exit → Act → World → Prop) (a : Act) (w : World) : Prop :=
  ∀ (b : Frame) (kk : List Item) (cs : List Frame), b.fn = k → b.roundOf = none → ∃ e a' w', Q e a' w' ∧ ArrivesIn (Machine.fenced P Fence.wide) P (lone (b.atR a (.code c :: kk)) cs w) b kk cs e a' w'
section
variable {k : FuncId} {Q : Exit → Act → World → Prop} {a : Act} {w : World}
theorem calmW {b : Frame} {cs : List Frame} (h : b.about P w = none) : (lone b cs w).fenced P Fence.wide := fenced_calm (n := 0) trivial (room_wide _) h
theorem wpK_of {c : Code} (h : c.wp P Q a w) : c.wpK k P Q a w := fun b kk cs _ hro => (wpIn_wide (n := 0)).2 h b kk cs hro trivial (room_wide _)
theorem wpK_seq {x y : Code} (h : x.wpK k P (Exit.then (y.wpK k P Q) Q) a w) : (Code.seq x y).wpK k P Q a w := by
  intro b kk cs hb hro
  obtain ⟨e, a₁, w₁, hq, harr⟩ := h b (.code y :: kk) cs hb hro
  have h0 : (lone (b.atR a (.code (.seq x y) :: kk)) cs w).fenced P Fence.wide := calmW rfl
  cases e with
  | normal =>
    obtain ⟨e₂, a₂, w₂, hq₂, harr₂⟩ := hq b kk cs hb hro
    exact ⟨e₂, a₂, w₂, hq₂, .of_steps (.head h0 stepR_seq harr) harr₂⟩
  | _ => exact ⟨_, a₁, w₁, hq, .of_steps (.one h0 stepR_seq) (.pass (x := .code y) rfl (fun _ _ => .inl (by simp)) harr)⟩
/-- a statement that leaves no exit of the block -/
theorem wpK_block {id : Nat} {c : Code} (h : c.wpK k P (fun e a w => (e = .normal ∨ ∃ ch, e = .panic ch) ∧ Q e a w) a w) : (Code.block id c).wpK k P Q a w := by
  intro b kk cs hb hro
  obtain ⟨e, a₁, w₁, ⟨he, hq⟩, harr⟩ := h b (.inBlock id :: kk) cs hb hro
  have h0 : (lone (b.atR a (.code (.block id c) :: kk)) cs w).fenced P Fence.wide := calmW rfl
  rcases he with rfl | ⟨ch, rfl⟩
  · exact ⟨.normal, a₁, w₁, hq, .head h0 stepR_block (StepsIn.trans harr (.one (calmW rfl) stepR_inBlock))⟩
  · exact ⟨_, a₁, w₁, hq, .of_steps (.one h0 stepR_block) harr⟩
/-- the statement 'for .. := range g', g a function value: the function is called with the loop's yield; the record is ready, with no jump pending, behind it -/
theorem wpK_range (hP : Plain P) {g : Operand} {ps : Array Tmp} {assign body : Code} {f : FuncId} {fn : Func} {lb : List Value} {c : Code} (hf : P.funcs[f]? = some fn) (hb : fn.body = some c)
    (hg : a.eval g = .func (.func f) #[] lb.toArray)
    (h : call P f (.func (.yield (w.heap.size + 1)) #[] #[] :: lb) ((w.alloc (.deferred (some []))).alloc (.loop { state := .ready, pending := none, fn := k, tmps := a.tmps, params := ps, assign, body, defers := w.heap.size }))
      (fun _ w3 => ∃ r, w3.heap[w.heap.size + 1]? = some (.loop r) ∧ r.state ≠ .busy ∧ r.pending = none ∧ Q .normal { a with defers := { target := .collected w.heap.size, args := #[] } :: a.defers } (w3.putObj (w.heap.size + 1) (.loop { r with state := .exhausted })))
      (fun ch w3 => Q (.panic ch) { a with defers := { target := .collected w.heap.size, args := #[] } :: a.defers } w3)) :
    (Code.rangeFunc g ps assign body).wpK k P Q a w := by
  intro b kk cs hbk hro
  let l := w.heap.size + 1
  let w1 : World := (w.alloc (.deferred (some []))).alloc (.loop { state := .ready, pending := none, fn := k, tmps := a.tmps, params := ps, assign, body, defers := w.heap.size })
  let a' : Act := { a with defers := [{ target := .collected w.heap.size, args := #[] }] ++ a.defers }
  have he : (Instr.enterLoop b.fn a.tmps ps assign body b.roundOf).run P w = .ok (l, [{ target := .collected w.heap.size, args := #[] }]) w1 := by
    rw [hbk, hro]; exact run_enterLoop_outer k a.tmps ps assign body
  have hres : (resolve a.eval (rangeCall g l) 0).run P w1 = .ok { target := .fn (.func f) lb.toArray, args := #[.func (.yield l) #[] #[]] } w1 := by
    have he : (rangeCall g l).args.map a.eval = #[.func (.yield l) #[] #[]] := by simp [Act.eval]
    show (Deferred.ofValue (a.eval g) ((rangeCall g l).args.map a.eval)).run P w1 = _
    rw [hg, he]; simp [Deferred.ofValue]
  have hinv : (invoke (.fn (.func f) lb.toArray) #[.func (.yield l) #[] #[]]).run P w1 = .ok (.enter f (Value.func (.yield l) #[] #[] :: lb).toArray) w1 := by
    show (callFunc f _).run P _ = _
    rw [callF_ok hP hf hb]
    simp
  have henter := stepR_rangeFunc (P := P) (b := b) (a := a) (k := kk) (cs := cs) (w := w) he hres hinv
  have h0 : (lone (b.atR a (.code (.rangeFunc g ps assign body) :: kk)) cs w).fenced P Fence.wide := fenced_wide _ _
  obtain ⟨e, w₃, fr, hR, hsteps, hfn, hleave⟩ := (callsIn_wide (n := 0)).2 h |>.2 (b.atR a' (.inRangeFunc l :: kk) :: cs) (room_wide _)
  cases e with
  | outgrown => exact hR.elim
  | returned v =>
    have hl : (lone fr (b.atR a' (.inRangeFunc l :: kk) :: cs) w₃).fenced P Fence.wide := fenced_wide _ _
    obtain ⟨r, hlr, hbz, hp, hQ⟩ := hR
    have hend := run_endLoop (P := P) hlr hbz
    rw [hp] at hend hQ
    refine ⟨.normal, a', _, hQ, .head h0 henter (StepsIn.trans hsteps (.head hl ?_ (.one (calmW rfl) (stepR_endRangeFunc hend))))⟩
    rw [← finish_atR_inRangeFunc l v]; exact step_leave_returned hleave
  | panicked chain =>
    have hl : (lone fr (b.atR a' (.inRangeFunc l :: kk) :: cs) w₃).fenced P Fence.wide := fenced_wide _ _
    refine ⟨.panic chain, a', w₃, hR, .inRangeFunc l :: kk, .head h0 henter (StepsIn.trans hsteps (.one hl ?_))⟩
    rw [← Frame.raise_atR]; exact step_leave_panicked hleave
/-- a function's call, deferred calls and marks and all -/
theorem call_of_wpK {fn : Func} {c : Code} {args : List Value} {R : Ending → World → Prop} (hf : P.funcs[k]? = some fn) (hb : fn.body = some c)
    (h : c.wpK k P (bodyPostM Fence.wide 0 P fn R) { tmps := args.toArray ++ Array.replicate (fn.ntmps - args.toArray.size) undef, defers := [] } w) : Calls P k args.toArray w R := by
  refine (callsIn_wide (n := 0)).1 ⟨trivial, fun cs hr => ?_⟩
  let b : Frame := { (default : Frame) with fn := k, kind := .normal, roundOf := none }
  have henter : Frame.enter P k args.toArray .normal =
      b.atR { tmps := args.toArray ++ Array.replicate (fn.ntmps - args.toArray.size) undef, defers := [] } [.code c] := by
    simp [Frame.enter, Frame.atR, hf, hb, b]
  obtain ⟨e, a', w', hq, harr⟩ := h b [] cs rfl rfl
  rw [← henter] at harr
  cases e with
  | normal =>
    obtain ⟨e', w'', fr', hR, hs, hfn, hl⟩ := leaves_stepsInM (F := Fence.wide) (n := 0) a'.defers .returning w' { b.atR a' [] with mode := .returning } cs rfl rfl rfl hf rfl trivial (room_wide _) hq
    exact ⟨e', w'', fr', hR, ComesIn.of_steps (StepsIn.trans harr (.one (calmW rfl) (stepR_end rfl))) hs, hfn, hl⟩
  | ret =>
    obtain ⟨todo, hs₀⟩ := harr.1 rfl
    obtain ⟨e', w'', fr', hR, hs, hfn, hl⟩ := leaves_stepsInM (F := Fence.wide) (n := 0) a'.defers .returning w' { b.atR a' todo with mode := .returning } cs rfl rfl rfl hf rfl trivial (room_wide _) hq
    exact ⟨e', w'', fr', hR, ComesIn.of_steps hs₀ hs, hfn, hl⟩
  | panic chain =>
    obtain ⟨todo, hs₀⟩ := harr
    obtain ⟨e', w'', fr', hR, hs, hfn, hl⟩ := leaves_stepsInM (F := Fence.wide) (n := 0) a'.defers (.panicking chain) w' { b.atR a' todo with mode := .panicking chain } cs rfl rfl rfl hf rfl trivial (room_wide _) hq
    exact ⟨e', w'', fr', hR, ComesIn.of_steps hs₀ hs, hfn, hl⟩
  | exit id => exact hq.elim
  | goto l => exact hq.elim
  | outgrown => exact ⟨.outgrown, w', b, hq, harr.resolve_left (by simp [b]), rfl, trivial⟩
end

/-! ### deferred calls, recover -/
/-- operations that make no call -/
def mild (o : Oper) : Bool := match o.op with
  | .move _ | .assign _ | .alloc _ | .store .. | .extract .. | .typeAssert .. => true
  | _ => false
theorem valS {s : Sem Value} {w : World} : (∃ v w', (do let v ← s; pure (.value v) : Sem Next).run P w = .ok (.value v) w') ∨ (∃ x w', (do let v ← s; pure (.value v) : Sem Next).run P w = .halt x w') := by
  rw [run_bind]
  cases s.run P w with
  | ok v w' => exact .inl ⟨v, w', rfl⟩
  | halt x w' => exact .inr ⟨x, w', rfl⟩
theorem unitS {s : Sem Unit} {w : World} : (∃ w', (do s; pure .skip : Sem Next).run P w = .ok .skip w') ∨ (∃ x w', (do s; pure .skip : Sem Next).run P w = .halt x w') := by
  rw [run_bind]
  cases s.run P w with
  | ok v w' => exact .inl ⟨w', rfl⟩
  | halt x w' => exact .inr ⟨x, w', rfl⟩
theorem mild_run {o : Oper} {ρ : Operand → Value} {w : World} (h : mild o = true) : (∃ v w', (execOp ρ o).run P w = .ok (.value v) w') ∨ (∃ w', (execOp ρ o).run P w = .ok .skip w') ∨ (∃ x w', (execOp ρ o).run P w = .halt x w') := by
  have hv : ∀ s : Sem Value, (∃ v w', (do let v ← s; pure (.value v) : Sem Next).run P w = .ok (.value v) w') ∨ (∃ w', (do let v ← s; pure (.value v) : Sem Next).run P w = .ok .skip w') ∨ (∃ x w', (do let v ← s; pure (.value v) : Sem Next).run P w = .halt x w') :=
    fun s => (valS (P := P) (s := s) (w := w)).imp id fun h => Or.inr h
  have hu : ∀ s : Sem Unit, (∃ v w', (do s; pure .skip : Sem Next).run P w = .ok (.value v) w') ∨ (∃ w', (do s; pure .skip : Sem Next).run P w = .ok .skip w') ∨ (∃ x w', (do s; pure .skip : Sem Next).run P w = .halt x w') :=
    fun s => Or.inr (unitS (P := P) (s := s) (w := w))
  unfold mild at h
  unfold execOp
  cases ho : o.op <;> rw [ho] at h <;> first | (cases h; done) | skip
  · exact .inl ⟨_, _, rfl⟩
  · exact .inl ⟨_, _, rfl⟩
  all_goals first | exact hv _ | exact hu _
def mildAt (ops : Array Oper) (L : List Nat) : Bool := L.all fun i => match ops[i]? with | some o => mild o | none => true
theorem opsS_mild {ops : Array Oper} {n : Nat} {Q : Exit → Act → List Frame → World → Prop} {cs : List Frame} : ∀ (L : List Nat), mildAt ops L = true → ∀ (a : Act) (w : World), wpOpsIn Fence.wide 0 P ops (fun e a w => Q e a cs w) L a w → wpOpsSIn Fence.wide n P ops Q L a cs w
  | [], _, a, w, h => h
  | i :: r, hm, a, w, h => by
    simp only [mildAt, List.all_cons, Bool.and_eq_true] at hm
    unfold wpOpsIn at h
    unfold wpOpsSIn
    cases ho : ops[i]? with
    | none => rw [ho] at h; exact opsS_mild r hm.2 a w h
    | some o =>
      rw [ho] at h
      have hmo : mild o = true := by simpa [ho] using hm.1
      simp only at h ⊢
      refine ⟨fun _ _ => trivial, ?_⟩
      split at h
      · rename_i hw
        rw [if_pos hw]
        have h := h.2
        rw [show Fence.wide.round = none from rfl, Oper.semAt_none] at h
        rcases mild_run (P := P) (ρ := a.eval) (w := w) hmo with ⟨v, w', hr⟩ | ⟨w', hr⟩ | ⟨x, w', hr⟩
        · rw [hr] at h ⊢; exact opsS_mild r hm.2 _ _ h
        · rw [hr] at h ⊢; exact opsS_mild r hm.2 _ _ h
        · rw [hr] at h ⊢
          cases x <;> first | exact h | exact h.elim
      · rename_i hw
        rw [if_neg hw]
        exact opsS_mild r hm.2 _ _ h.2
theorem leaves_mark {fn : Func} {tmps : Array Value} {R : Ending → World → Prop} {ds : List Deferred} {u : FrameMode} {w : World} {k : Nat} (hu : u ≠ .run) (h : w.heap[k]? = some (.deferred (some [])))
    (hr : LeavesInM Fence.wide 0 P fn tmps R ds u (w.putObj k (.deferred none))) : LeavesInM Fence.wide 0 P fn tmps R ({ target := .collected k, args := #[] } :: ds) u w :=
  ⟨hu, .inl ⟨k, _, rfl, run_takeDeferred h, hr⟩⟩
theorem leaves_call (hP : Plain P) {fn : Func} {tmps : Array Value} {R : Ending → World → Prop} {ds : List Deferred} {u : FrameMode} {w : World} {f : FuncId} {cap : Array Value} {gn : Func} {c : Code} (hu : u ≠ .run) (hf : P.funcs[f]? = some gn) (hb : gn.body = some c)
    (h : CallsDIn Fence.wide 0 P f cap u w fun
          | .returned _, u', w' => LeavesInM Fence.wide 0 P fn tmps R ds (settle u') w'
          | .panicked chain, u', w' => LeavesInM Fence.wide 0 P fn tmps R ds (raised u' chain) w'
          | .outgrown, _, w' => R .outgrown w') : LeavesInM Fence.wide 0 P fn tmps R ({ target := .fn (.func f) cap, args := #[] } :: ds) u w :=
  ⟨hu, .inr ⟨fun hd => by simp [Fence.wide] at hd, .func f, cap, f, cap, rfl, by
    show (callFunc f (#[] ++ cap)).run P w = _
    rw [Array.empty_append, callF_ok hP hf hb], fun _ _ => trivial, h⟩⟩
theorem leaves_done {fn : Func} {a : Act} {K : Value → World → Prop} {X : List PanicEntry → World → Prop} {w : World} (h : resV P w (ofAct a) fn.results.toList fun vs => K (retV vs) w) :
    LeavesInM Fence.wide 0 P fn a.tmps (onRet K X) [] .returning w := by
  obtain ⟨vs, hr, hK⟩ := run_results h
  exact ⟨_, hr, hK⟩
end Go.Vc
namespace Go.Vc
open Go
variable {P : Program}
theorem recS {n : Nat} {ops : Array Oper} {Q : Exit → Act → List Frame → World → Prop} {L : List Nat} {i : Nat} {a : Act} {cs : List Frame} {w : World} {o : Oper} (ho : ops[i]? = some o) (hg : o.guard = none)
    (hr : (execOp a.eval o).run P w = .ok .recover w)
    (h : match recoverD cs with
      | some (v, cs') => wpOpsSIn Fence.wide n P ops Q L (a.put o.dst v) cs' w
      | none => wpOpsSIn Fence.wide n P ops Q L (a.put o.dst .nilIface) cs w) : wpOpsSIn Fence.wide n P ops Q (i :: L) a cs w := by
  unfold wpOpsSIn
  rw [ho]
  simp only
  refine ⟨fun _ _ => trivial, ?_⟩
  rw [if_pos (by simp [Region.wanted, hg]), hr]
  exact h
end Go.Vc
