/- Rounds of a range over a function, panics and all: regions of a round's body. No program in sight. -/
import Derived.Test.YtgfbkmclekafbaaGreatDoorQVc13
import Derived.RangeFuncLeaves
import Derived.RangeFuncRecord
set_option linter.unusedVariables false
set_option linter.unusedSimpArgs false
set_option linter.unnecessarySimpa false
namespace Go.Vc
open Go
variable {P : Program}

theorem fenced_inRound (P : Program) (l : Nat) (m : Machine) : m.fenced P (Fence.wide.inRound l) := by
  intro g _
  refine ⟨fun h => ?_, Or.inl trivial, fun _ _ => trivial, fun _ h => ?_⟩
  · simp [Fence.wide, Fence.inRound] at h
  · simp [Fence.wide, Fence.inRound] at h
theorem stepsIn_inRound {l : Nat} {m m' : Machine} : StepsIn (Machine.fenced P (Fence.wide.inRound l)) P m m' ↔ Steps P m m' :=
  ⟨StepsIn.steps, fun h => (StepsIn.of_steps h).mono fun m _ => fenced_inRound P l m⟩
theorem comesIn_inRound {l : Nat} {m m' : Machine} {e : Ending} : ComesIn (Machine.fenced P (Fence.wide.inRound l)) P m m' e ↔ Comes P m m' e := by
  cases e with
  | returned v => exact stepsIn_inRound
  | panicked chain => exact stepsIn_inRound
  | outgrown => exact Iff.rfl
theorem callsIn_inRound {l n : Nat} {f : FuncId} {args : Array Value} {w : World} {R : Ending → World → Prop} (h : Calls P f args w R) : CallsIn (Fence.wide.inRound l) n P f args w R :=
  ⟨trivial, fun cs _ => let ⟨e, w', fr, r, s, x⟩ := h cs; ⟨e, w', fr, r, comesIn_inRound.2 s, x⟩⟩
theorem semAt_plain {l : Nat} {ρ : Operand → Value} {o : Oper} (h : ∀ c, o.op ≠ .defer c) : o.semAt (some l) ρ = execOp ρ o := by
  unfold Oper.semAt
  cases ho : o.op <;> first | rfl | exact absurd ho (h _)
theorem upon_in {l n : Nat} {o : Oper} {a : Act} {N N' : Act → World → Prop} {Q : Exit → Act → World → Prop} (hN : ∀ a w, N a w → N' a w) (r : Result Next) (h : o.upon P a N Q r) : o.uponIn (Fence.wide.inRound l) n P a N' Q r := by
  cases r with
  | ok x w =>
    cases x with
    | value v => exact hN _ _ h
    | skip => exact hN _ _ h
    | defer d => exact hN _ _ h
    | enter f args =>
      refine ⟨fun hd => by simp [Fence.wide, Fence.inRound] at hd, (callsIn_inRound h).mono ?_⟩
      intro e w' he
      cases e with
      | returned v => exact hN _ _ he
      | panicked chain => exact he
      | outgrown => exact he
    | row row args =>
      refine ⟨fun hd => by simp [Fence.wide, Fence.inRound] at hd, fun c cs _ => ?_⟩
      obtain ⟨v, w', hv, hs⟩ := h c cs
      exact ⟨v, w', hN _ _ hv, stepsIn_inRound.2 hs⟩
    | _ => exact h.elim
  | halt y w =>
    cases y with
    | panic v => exact h
    | _ => exact h.elim
theorem ops_in {l n : Nat} {ops : Array Oper} {Q : Exit → Act → World → Prop} (hQ : ∀ a w, ¬ Q .outgrown a w) (hd : ∀ (i : Nat) (o : Oper), ops[i]? = some o → ∀ c, o.op ≠ .defer c) :
    ∀ (r : List Nat) (a : Act) (w : World), wpOps P ops Q r a w → wpOpsIn (Fence.wide.inRound l) n P ops Q r a w
  | [], a, w, h => h
  | i :: r, a, w, h => by
    unfold wpOps at h
    unfold wpOpsIn
    cases ho : ops[i]? with
    | none => rw [ho] at h; exact ops_in hQ hd r a w h
    | some o =>
      rw [ho] at h
      simp only at h ⊢
      split at h
      · rename_i hw
        rw [if_pos hw]
        rcases h with h | ⟨_, a0, w0, h⟩
        · refine ⟨fun _ _ => trivial, ?_⟩
          rw [Fence.inRound_round, semAt_plain (hd i o ho)]
          exact upon_in (fun a w => ops_in hQ hd r a w) _ h
        · exact absurd h (hQ a0 w0)
      · rename_i hw
        rw [if_neg hw]
        exact ⟨fun _ _ => trivial, ops_in hQ hd r _ w h⟩
/-- what is asked at a round's end, its panic too -/
def roundPostP (P : Program) (l : Nat) (R : Ending → World → Prop) : Exit → Act → World → Prop
  | .panic chain, a, w => a.defers = [] ∧ R (.panicked chain) w
  | e, a, w => roundPost P l R e a w
theorem roundIn_p {F : Fence} {n l : Nat} {f : FuncId} {fn : Func} {tmps : Array Value} {assign body : Code} {w : World} {R : Ending → World → Prop} (hfn : P.funcs[f]? = some fn) (hF : F.fn f)
    (h : assign.wpIn (F.inRound l) n P (Exit.then (fun a₁ w₁ => ∃ w₂, (Instr.beginRound l).run P w₁ = .ok () w₂ ∧ body.wpIn (F.inRound l) n P (roundPostP P l R) a₁ w₂) (fun _ _ _ => False))
      { tmps := tmps, defers := [] } w) :
    RoundIn F n P l f tmps assign body w R := by
  refine ⟨hF, fun c cs hr => ?_⟩
  let b : Frame := { (default : Frame) with fn := f, kind := .normal, roundOf := some l }
  have hb0 : Frame.round l f tmps assign body .normal = b.atR { tmps := tmps, defers := [] } [.code assign, .beginRound, .code body] := by
    simp [Frame.round, Frame.atR, b]
  have hr' : (F.inRound l).room ((c :: cs).length + 1 + n) := hr
  have hF' : (F.inRound l).fn b.fn := hF
  obtain ⟨e, a₁, w₁, hq, harr⟩ := h b [.beginRound, .code body] (c :: cs) rfl hF' hr'
  rw [← hb0] at harr
  cases e with
  | normal =>
    obtain ⟨w₂, hbr, hbody⟩ := hq
    have s1 : StepsIn (Machine.fenced P (F.inRound l)) P (lone (b.atR a₁ [.beginRound, .code body]) (c :: cs) w₁) (lone (b.atR a₁ [.code body]) (c :: cs) w₂) :=
      .one (fenced_calm (fr := b.atR a₁ [.beginRound, .code body]) hF' hr' rfl) (stepR_beginRound rfl hbr)
    obtain ⟨e₂, a₂, w₃, hq₂, harr₂⟩ := hbody b [] (c :: cs) rfl hF' hr'
    cases e₂ with
    | normal =>
      obtain ⟨v, w₄, hend, hR⟩ := hq₂
      exact ⟨.returned v, w₄, hR, (StepsIn.trans harr s1).trans (StepsIn.trans harr₂ (.one (fenced_calm (fr := b.atR a₂ []) hF' hr' rfl) (stepR_round_end rfl rfl hend)))⟩
    | ret =>
      obtain ⟨v, w₄, hend, hR⟩ := hq₂
      obtain ⟨k₁, hs⟩ := harr₂.2 rfl
      exact ⟨.returned v, w₄, hR, (StepsIn.trans harr s1).trans (StepsIn.trans hs (.one (fenced_calm (fr := b.atR a₂ (.code .ret :: k₁)) hF' hr' rfl) (stepR_round_ret rfl rfl hend)))⟩
    | exit id =>
      obtain ⟨v, w₄, hend, hR⟩ := hq₂
      obtain ⟨k₁, hk, hs⟩ := harr₂.2 rfl rfl
      exact ⟨.returned v, w₄, hR, (StepsIn.trans harr s1).trans (StepsIn.trans hs (.one (fenced_calm (fr := b.atR a₂ (.code (.exit id) :: k₁)) hF' hr' rfl) (stepR_round_exit rfl rfl hk hend)))⟩
    | goto t =>
      obtain ⟨v, w₄, hend, hR⟩ := hq₂
      obtain ⟨k₁, hk, hs⟩ := harr₂.2 rfl rfl
      exact ⟨.returned v, w₄, hR, (StepsIn.trans harr s1).trans (StepsIn.trans hs (.one (fenced_calm (fr := b.atR a₂ (.code (.goto t) :: k₁)) hF' hr' rfl) (stepR_round_goto rfl rfl hk hend)))⟩
    | panic chain =>
      obtain ⟨hdf, hR⟩ := hq₂
      obtain ⟨todo, hs⟩ := harr₂
      refine ⟨.panicked chain, w₃, hR, (StepsIn.trans harr s1).trans (StepsIn.trans hs (.one (fenced_leaving (e := .panicked chain) hF' hr' ⟨rfl, hdf, fn, hfn⟩) (step_leave_panicked (fr := { b.atR a₂ todo with mode := .panicking chain }) ⟨rfl, hdf, fn, hfn⟩)))⟩
    | outgrown => exact hq₂.elim
  | exit id => exact hq.elim
  | goto t => exact hq.elim
  | ret => exact hq.elim
  | panic chain => exact hq.elim
  | outgrown => exact hq.elim
theorem in_value {n : Nat} {ops : Array Oper} {Q : Exit → Act → World → Prop} {i : Nat} {r : List Nat} {a : Act} {w w' : World} {o : Oper} {v : Value} (ho : ops[i]? = some o) (hg : o.guard = none)
    (hr : (execOp a.eval o).run P w = .ok (.value v) w') (h : wpOpsIn Fence.wide n P ops Q r (a.put o.dst v) w') : wpOpsIn Fence.wide n P ops Q (i :: r) a w := by
  unfold wpOpsIn
  rw [ho]
  simp only
  rw [if_pos (by simp [Region.wanted, hg])]
  refine ⟨fun _ _ => trivial, ?_⟩
  rw [show Fence.wide.round = none from rfl, Oper.semAt_none, hr]
  exact h
theorem in_round {n l : Nat} {ops : Array Oper} {Q : Exit → Act → World → Prop} {i : Nat} {r : List Nat} {a : Act} {w w' : World} {o : Oper} {f : FuncId} {tmps : Array Value} {assign body : Code} (ho : ops[i]? = some o) (hg : o.guard = none)
    (hr : (execOp a.eval o).run P w = .ok (.round l f tmps assign body) w')
    (h : RoundIn Fence.wide (n - 1) P l f tmps assign body w' fun
      | .returned v, w'' => wpOpsIn Fence.wide n P ops Q r (a.put o.dst v) w''
      | .panicked chain, w'' => Q (.panic chain) a w''
      | .outgrown, _ => LetsOut Q) : wpOpsIn Fence.wide n P ops Q (i :: r) a w := by
  unfold wpOpsIn
  rw [ho]
  simp only
  rw [if_pos (by simp [Region.wanted, hg])]
  refine ⟨fun _ _ => trivial, ?_⟩
  rw [show Fence.wide.round = none from rfl, Oper.semAt_none, hr]
  exact ⟨fun hd => by simp [Fence.wide] at hd, h⟩
theorem run_callYield {l : Nat} {r : Loop} {a : Act} {w : World} {x : Value} {d t y : Nat} {p : String} {af : Array Edge} {ty aty : TypeId} (hy : a.eval (.tmp t) = .func (.yield l) #[] #[]) (hx : a.eval (.tmp y) = x) (hl : w.heap[l]? = some (.loop r)) (hp : r.params.size = 1) :
    (execOp a.eval { dst := some d, op := .call { callee := .value (.tmp t), args := #[.tmp y], argTypes := #[aty] }, type := ty, pos := p, after := af, guard := none }).run P w = .ok (.round l r.fn ((r.params.zip #[x]).foldl (fun tmps (t, a) => tmps.setIfInBounds t a) r.tmps) r.assign r.body) w := by
  have hyl := run_yield (P := P) (args := #[x]) hl (by rw [hp]; rfl)
  have hof : (Deferred.ofValue (.func (.yield l) #[] #[]) #[x]).run P w = .ok { target := .fn (.yield l) #[], args := #[x] } w := by simp [Deferred.ofValue]
  simp only [execOp, resolve, Sem.run_bind, hy]
  simp only [List.map_toArray, List.map_cons, List.map_nil, hx, hof, Result.andThen]
  exact hyl
end Go.Vc
