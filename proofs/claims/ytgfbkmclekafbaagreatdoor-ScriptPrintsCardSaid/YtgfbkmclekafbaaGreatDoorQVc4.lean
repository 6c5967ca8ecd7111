/- Each operation's reading is sound, part 2. -/
import Derived.Test.YtgfbkmclekafbaaGreatDoorQVc3
set_option linter.unusedVariables false
set_option linter.unusedSimpArgs false
set_option linter.unnecessarySimpa false
namespace Go.Vc
open Go
variable {P : Program}

theorem ocAll_el : ∀ {vs : List Value} {K : Prop}, ocAll vs K → (∀ v ∈ vs, v.oneCell' = true) ∧ K
  | [], _, h => ⟨by simp, h⟩
  | v :: r, K, h => by
    simp only [ocAll, oc] at h
    split at h
    · rename_i hv
      obtain ⟨h1, h2⟩ := ocAll_el h
      exact ⟨by simp [hv]; exact h1, h2⟩
    · exact h.elim
theorem add_zero (a : Addr) : a.add 0 = a := by simp [Addr.add]
theorem add_inj {a : Addr} {i j : Nat} (h : i ≠ j) (hs : a.spot = none) : a.add i ≠ a.add j := by
  intro he
  unfold Addr.add at he
  rcases a with ⟨b, o, s⟩
  simp at hs; subst hs
  split at he <;> split at he <;> simp at he <;> omega
theorem cell_spot {w : World} {a : Addr} (h : (w.cell? a).isSome = true) : a.spot = none := by
  unfold World.cell? at h
  split at h
  · cases hs : a.spot with
    | none => rfl
    | some _ => simp [hs] at h
  · simp at h
theorem run_storeCells {w : World} {a : Addr} : ∀ (vs : List Value) (i : Nat), (∀ v ∈ vs, v.oneCell' = true) → (∀ j, j < vs.length → (w.cell? (a.add (i + j))).isSome = true ∧ w.frozen? (a.add (i + j)) = false) →
    (storeCells a vs i).run P w = .ok () (setAll w a i vs)
  | [], i, _, _ => by simp [storeCells, setAll, go_sem]
  | v :: r, i, hv, hc => by
    obtain ⟨h1, h2⟩ := hc 0 (by simp)
    simp only [Nat.add_zero] at h1 h2
    obtain ⟨u, hu⟩ := Option.isSome_iff_exists.1 h1
    simp only [storeCells, setAll]
    rw [run_bind]
    have hs : (store (a.add i) v).run P w = .ok () (w.setCell (a.add i) v) := by
      rw [run_store P w (a.add i) v .plain (hv v (by simp))]
      simp [hu, h2]
    rw [hs]
    simp only []
    refine run_storeCells r (i + 1) (fun v hv' => hv v (by simp [hv'])) (fun j hj => ?_)
    obtain ⟨h3, h4⟩ := hc (j + 1) (by simpa using hj)
    rw [show i + (j + 1) = i + 1 + j by omega] at h3 h4
    constructor
    · by_cases he : a.add i = a.add (i + 1 + j)
      · rw [he] at hu ⊢
        rw [World.cell?_setCell_same _ _ _ hu]; rfl
      · rw [World.cell?_setCell_other _ _ _ _ he]; exact h3
    · have : (w.setCell (a.add i) v).frozen? (a.add (i + 1 + j)) = w.frozen? (a.add (i + 1 + j)) := by simp [go_sem]
      rw [this]; exact h4
theorem run_storeVar {w : World} {t : TypeId} {a : Addr} {v : Value} {i : TypeInfo} (hi : P.info? t = some i) (hs : v.cells.size = i.size) (h1 : ∀ x ∈ v.cells.toList, x.oneCell' = true)
    (hc : stOk w a v.cells.toList.length) : (storeVar t a v).run P w = .ok () (setAll w a 0 v.cells.toList) := by
  unfold storeVar
  rw [run_bind, run_sizeOf' hi]
  simp only [hs]
  simp only [ne_eq, not_true, if_false]
  exact run_storeCells _ _ h1 (by simpa [stOk] using hc)
end Go.Vc
