/- A function's body read: its call. -/
import Derived.Test.YtgfbkmclekafbaaGreatDoorQVc7
set_option linter.unusedVariables false
set_option linter.unusedSimpArgs false
set_option linter.unnecessarySimpa false
namespace Go.Vc
open Go
variable {P : Program}

theorem argE_eq (args : List Value) (k : Nat) (D : List Deferred) : ofAct { tmps := args.toArray ++ Array.replicate k undef, defers := D } = argE args := by
  funext t
  simp only [ofAct, argE, Array.getD_eq_getD_getElem?, List.getD_eq_getElem?_getD]
  by_cases h : t < args.length
  · rw [Array.getElem?_append_left (by simpa using h)]; simp
  · rw [Array.getElem?_append_right (by simpa using h)]
    simp only [List.size_toArray]
    rw [List.getElem?_eq_none (by omega)]
    cases hh : (Array.replicate k undef)[t - args.length]? with
    | none => rfl
    | some v =>
      rw [Array.getElem?_replicate] at hh
      split at hh
      · simp at hh; subst hh; rfl
      · simp at hh
def resOne (tmps : Array Value) (r : ResultVar) : Sem Value := match r with
  | .tmp t => pure (tmps.getD t undef)
  | .cell a t => do loadVar t (← asAddr (tmps.getD a undef))
theorem results_eq (fn : Func) (tmps : Array Value) : results fn tmps = (do let vs ← fn.results.mapM (resOne tmps); pure (if h : vs.size = 1 then vs[0] else .tuple vs)) := by
  unfold results
  have : (fun r : ResultVar => (match r with | .tmp t => pure (tmps.getD t undef) | .cell a t => do loadVar t (← asAddr (tmps.getD a undef)) : Sem Value)) = resOne tmps := by
    funext r; cases r <;> rfl
  rw [← this]; rfl
theorem run_cons {tmps : Array Value} {r : ResultVar} {rs : List ResultVar} {w : World} {v : Value} {vs : List Value} (h1 : (resOne tmps r).run P w = .ok v w) (h2 : (rs.mapM (resOne tmps)).run P w = .ok vs w) :
    ((r :: rs).mapM (resOne tmps)).run P w = .ok (v :: vs) w := by
  rw [List.mapM_cons, run_bind, h1]
  simp only []
  rw [run_bind, h2]
  rfl
theorem run_resV {w : World} {tmps : Array Value} : ∀ {rs : List ResultVar} {K : List Value → Prop}, resV P w (fun t => tmps.getD t undef) rs K →
    ∃ vs, (rs.mapM (resOne tmps)).run P w = .ok vs w ∧ K vs
  | [], K, h => ⟨[], rfl, h⟩
  | .tmp t :: r, K, h => by
    simp only [resV] at h
    obtain ⟨vs, hr, hK⟩ := run_resV h
    exact ⟨_, run_cons rfl hr, hK⟩
  | .cell a t :: r, K, h => by
    simp only [resV] at h
    split at h
    · rename_i b l i hx ht hi
      obtain ⟨v, hv, h⟩ := ld_el h
      have h := asLeaf_el h
      obtain ⟨h1, d, h2⟩ := tySh_leaf ht
      obtain ⟨vs, hr, hK⟩ := run_resV h
      refine ⟨_, run_cons ?_ hr, hK⟩
      simp only [resOne]
      rw [hx, run_bind]
      exact run_loadVar_leaf h2 h1 hv
    · rename_i b ls i hx ht hi
      split at h
      · rename_i hn
        obtain ⟨vs', hl, hc, h⟩ := ldLeaves_el h
        obtain ⟨h1, d, h2⟩ := tySh_agg ht
        obtain ⟨vs, hr, hK⟩ := run_resV h
        refine ⟨_, run_cons ?_ hr, hK⟩
        have hload : (loadVar t b).run P w = .ok (.agg vs'.toArray) w := run_loadVar_agg h2 h1 hi (by rw [hl]; exact (Nat.eq_of_beq_eq_true hn).symm) (by simpa using hc)
        simp only [resOne]
        rw [hx, run_bind]
        exact hload
      · exact h.elim
    · exact h.elim
theorem run_results {fn : Func} {a : Act} {w : World} {K : List Value → Prop} (h : resV P w (ofAct a) fn.results.toList K) : ∃ vs, (results fn a.tmps).run P w = .ok (retV vs) w ∧ K vs := by
  obtain ⟨vs, hr, hK⟩ := run_resV (tmps := a.tmps) h
  refine ⟨vs, ?_, hK⟩
  rw [results_eq, run_bind]
  have : (fn.results.mapM (resOne a.tmps)).run P w = .ok vs.toArray w := by
    rw [Array.mapM_eq_mapM_toList, ← bind_pure_comp, run_bind, hr]
    rfl
  rw [this]
  simp only [pure, Sem.run]
  cases vs with
  | nil => rfl
  | cons v r =>
    cases r with
    | nil => simp [retV]
    | cons v' r => simp [retV]

theorem retQ_ok {fn : Func} {K : Value → World → Prop} {X : List PanicEntry → World → Prop} : PanicOk (retQ P fn K X) := fun _ _ _ _ h => h

/-- THE CALL OF A FUNCTION WITHOUT DEFERRED CALLS, out of its body's reading -/
theorem call_of_vc (hP : Plain P) {f : FuncId} {fn : Func} {c : Code} {args : List Value} {w : World} {K : Value → World → Prop} {X : List PanicEntry → World → Prop} (hf : P.funcs[f]? = some fn) (hb : fn.body = some c)
    (ann : Ann) (dr : Bool → Array Oper → RI → Bool) (hdr : ∀ d ops r, dr d ops r = true → d = true → DrawOk P fn.ntmps ops r)
    (hc : (chk fn.ntmps ann c && draws dr ann c && decide (args.length ≤ fn.ntmps)) = true) (h : vc P ann c (retQ P fn K X) (argE args) w) : call P f args w K X := by
  simp only [Bool.and_eq_true, decide_eq_true_eq] at hc
  obtain ⟨⟨hc1, hc2⟩, hc3⟩ := hc
  refine calls_of_wp hf hb ?_
  rw [← argE_eq args (fn.ntmps - args.toArray.size) []] at h
  refine wp_mono (vc_sound hP fn.ntmps dr hdr [] c ann _ _ w retQ_ok hc1 hc2 (by simp; omega) rfl h) ?_
  intro x a' w' hx
  obtain ⟨h1, h2, h3, h4⟩ := hx
  cases x with
  | normal =>
    obtain ⟨vs, hr, hK⟩ := run_results h4
    exact ⟨h2, _, hr, hK⟩
  | ret =>
    obtain ⟨vs, hr, hK⟩ := run_results h4
    exact ⟨h2, _, hr, hK⟩
  | panic chain => exact ⟨h2, h4⟩
  | _ => exact h4
end Go.Vc
