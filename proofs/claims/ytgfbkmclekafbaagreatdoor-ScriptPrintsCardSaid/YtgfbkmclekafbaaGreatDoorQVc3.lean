/- Each operation's reading is sound: where it holds, the model's run of the operation comes to what the reading says. -/
import Derived.Test.YtgfbkmclekafbaaGreatDoorQVc2
set_option linter.unusedVariables false
set_option linter.unusedSimpArgs false
set_option linter.unnecessarySimpa false
namespace Go.Vc
open Go
variable {P : Program}

theorem asI_el {k : IntKind} {v : Value} {K : Int → Prop} (h : asI k v K) : ∃ n, v = .int k n ∧ K n := by
  unfold asI at h; split at h
  · rename_i k' n
    cases hd : decide (k' = k) <;> rw [hd] at h
    · exact h.elim
    · simp at hd; subst hd; exact ⟨n, rfl, h⟩
  · exact h.elim
theorem asF_el {k : FloatKind} {v : Value} {K : Nat → Prop} (h : asF k v K) : ∃ n, v = .float k n ∧ K n := by
  unfold asF at h; split at h
  · rename_i k' n
    cases hd : decide (k' = k) <;> rw [hd] at h
    · exact h.elim
    · simp at hd; subst hd; exact ⟨n, rfl, h⟩
  · exact h.elim
theorem asB_el {v : Value} {K : Bool → Prop} (h : asB v K) : ∃ n, v = .bool n ∧ K n := by
  unfold asB at h; split at h
  · exact ⟨_, rfl, h⟩
  · exact h.elim
theorem asS_el {v : Value} {K : ByteArray → Prop} (h : asS v K) : ∃ n, v = .string n ∧ K n := by
  unfold asS at h; split at h
  · exact ⟨_, rfl, h⟩
  · exact h.elim
theorem asP_el {v : Value} {K : Option Addr → Prop} (h : asP v K) : ∃ n, v = .pointer n ∧ K n := by
  unfold asP at h; split at h
  · exact ⟨_, rfl, h⟩
  · exact h.elim
theorem asL_el {v : Value} {K : Option Addr → Nat → Nat → Prop} (h : asL v K) : ∃ a l c, v = .slice a l c ∧ K a l c := by
  unfold asL at h; split at h
  · exact ⟨_, _, _, rfl, h⟩
  · exact h.elim
theorem asM_el {v : Value} {K : Option Nat → Prop} (h : asM v K) : ∃ n, v = .map n ∧ K n := by
  unfold asM at h; split at h
  · exact ⟨_, rfl, h⟩
  · exact h.elim
theorem asLeaf_el {l : Leaf} {v : Value} {K : Value → Prop} (h : asLeaf l v K) : K v := by
  cases l <;> simp only [asLeaf] at h
  · obtain ⟨n, rfl, h'⟩ := asI_el h; exact h'
  · obtain ⟨n, rfl, h'⟩ := asB_el h; exact h'
  · obtain ⟨n, rfl, h'⟩ := asS_el h; exact h'
  · obtain ⟨n, rfl, h'⟩ := asF_el h; exact h'
  · obtain ⟨n, rfl, h'⟩ := asP_el h; exact h'
  · obtain ⟨a, l, c, rfl, h'⟩ := asL_el h; exact h'
  · obtain ⟨n, rfl, h'⟩ := asM_el h; exact h'
  · exact h
theorem app_el : ∀ {n : Nat} {G : List Value → Prop} {l : List Value}, app n (lamN n G) l → l.length = n ∧ G l
  | 0, G, [], h => ⟨rfl, h⟩
  | 0, _, _ :: _, h => h.elim
  | _ + 1, _, [], h => h.elim
  | n + 1, G, v :: r, h => by
    obtain ⟨h1, h2⟩ := app_el (n := n) (l := r) h
    exact ⟨by simp [h1], h2⟩
theorem asLeaves_el : ∀ {ls : List Leaf} {vs : List Value} {K : List Value → Prop}, ls.length = vs.length → asLeaves ls vs K → K vs
  | [], [], _, _, h => h
  | [], _ :: _, _, hl, _ => by simp at hl
  | _ :: _, [], _, _, h => h.elim
  | l :: ls, v :: vs, K, hl, h => by
    have h1 := asLeaf_el h
    exact asLeaves_el (ls := ls) (vs := vs) (by simpa using hl) h1
mutual
theorem asSh_el : ∀ {s : Sh} {v : Value} {K : Value → Prop}, asSh s v K → K v
  | .leaf _, _, _, h => by simp only [asSh] at h; exact asLeaf_el h
  | .agg ls, v, K, h => by
    simp only [asSh, agN] at h
    split at h
    · rename_i a
      obtain ⟨h1, h2⟩ := app_el h
      have := asLeaves_el h1.symm h2
      simpa using this
    · exact h.elim
  | .tup ss, v, K, h => by
    simp only [asSh, tuN] at h
    split at h
    · rename_i a
      obtain ⟨h1, h2⟩ := app_el h
      have := asShs_el h1.symm h2
      simpa using this
    · exact h.elim
theorem asShs_el : ∀ {ss : List Sh} {vs : List Value} {K : List Value → Prop}, ss.length = vs.length → asShs ss vs K → K vs
  | [], [], _, _, h => by simpa only [asShs] using h
  | [], _ :: _, _, hl, _ => by simp at hl
  | _ :: _, [], _, hl, _ => by simp at hl
  | s :: ss, v :: vs, K, hl, h => by
    simp only [asShs] at h
    have h1 := asSh_el h
    exact asShs_el (ss := ss) (vs := vs) (by simpa using hl) h1
end
theorem asT_el {t : TypeId} {v : Value} {K : Value → Prop} (h : asT P t v K) : K v := by
  unfold asT at h; split at h
  · exact asSh_el h
  · exact h.elim
theorem ld_el {w : World} {a : Addr} {K : Value → Prop} (h : ld w a K) : ∃ v, w.cell? a = some v ∧ K v := by
  unfold ld at h; split at h
  · exact ⟨_, ‹_›, h⟩
  · exact h.elim
theorem nn_el {p : Option Addr} {K : Addr → Prop} (h : nn p K) : ∃ a, p = some a ∧ K a := by
  unfold nn at h; split at h
  · exact ⟨_, rfl, h⟩
  · exact h.elim
theorem ldLeaves_el : ∀ {ls : List Leaf} {w : World} {a : Addr} {i : Nat} {K : List Value → Prop}, ldLeaves w a i ls K →
    ∃ vs : List Value, vs.length = ls.length ∧ (∀ j (h : j < vs.length), w.cell? (a.add (i + j)) = some vs[j]) ∧ K vs
  | [], w, a, i, K, h => ⟨[], rfl, fun j h => by simp at h, h⟩
  | l :: ls, w, a, i, K, h => by
    simp only [ldLeaves] at h
    obtain ⟨v, hv, h⟩ := ld_el h
    have h := asLeaf_el h
    obtain ⟨vs, h1, h2, h3⟩ := ldLeaves_el h
    refine ⟨v :: vs, by simp [h1], ?_, h3⟩
    intro j hj
    cases j with
    | zero => simpa using hv
    | succ j =>
      have := h2 j (by simpa using hj)
      simpa [Nat.add_assoc, Nat.add_comm 1 j] using this

theorem run_bind {α β : Type} (x : Sem α) (f : α → Sem β) (w : World) : (x >>= f).run P w = match x.run P w with | .ok a w => (f a).run P w | .halt h w => .halt h w := by
  simp [go_sem]
  cases x.run P w <;> rfl

theorem run_load_some {w : World} {a : Addr} {v : Value} (h : w.cell? a = some v) : (load a).run P w = .ok v w := by
  simp [load, Sem.run, h]
theorem run_loadCellsFrom {w : World} {a : Addr} : ∀ (vs : List Value) (i : Nat) (acc : Array Value), (∀ j (h : j < vs.length), w.cell? (a.add (i + j)) = some vs[j]) →
    (loadCellsFrom a i vs.length acc).run P w = .ok (acc ++ vs.toArray) w
  | [], i, acc, _ => by simp [loadCellsFrom, go_sem]
  | v :: vs, i, acc, h => by
    have h0 := h 0 (by simp)
    simp only [Nat.add_zero, List.getElem_cons_zero] at h0
    simp only [List.length_cons, loadCellsFrom]
    rw [run_bind, run_load_some h0]
    simp only []
    rw [run_loadCellsFrom vs (i + 1) (acc.push v) fun j hj => by
      have := h (j + 1) (by simpa using hj)
      simpa [Nat.add_assoc, Nat.add_comm 1 j] using this]
    simp
theorem run_isAgg {w : World} {t : TypeId} {d : TypeDesc} (hu : P.underlying t = some d) : (isAgg t).run P w = .ok (isAggT P t) w := by
  unfold isAgg isAggT
  rw [run_bind, run_underlying hu, hu]
  cases d <;> rfl
theorem run_loadVar_leaf {w : World} {t : TypeId} {a : Addr} {v : Value} {d : TypeDesc} (hu : P.underlying t = some d) (hd : isAggT P t = false) (h : w.cell? a = some v) :
    (loadVar t a).run P w = .ok v w := by
  unfold loadVar
  rw [run_bind, run_isAgg hu, hd]
  exact run_load_some h
theorem run_sizeOf' {w : World} {t : TypeId} {i : TypeInfo} (hi : P.info? t = some i) : (sizeOf t).run P w = .ok i.size w := by
  simp [sizeOf, typeInfo, go_sem, hi]
theorem run_loadVar_agg {w : World} {t : TypeId} {a : Addr} {vs : List Value} {d : TypeDesc} {i : TypeInfo} (hu : P.underlying t = some d) (hd : isAggT P t = true) (hi : P.info? t = some i) (hs : i.size = vs.length)
    (h : ∀ j (h : j < vs.length), w.cell? (a.add j) = some vs[j]) : (loadVar t a).run P w = .ok (.agg vs.toArray) w := by
  unfold loadVar
  rw [run_bind, run_isAgg hu, hd]
  simp only [if_true]
  rw [run_bind, run_sizeOf' hi, hs]
  simp only [run_bind, loadCells]
  rw [run_loadCellsFrom (P := P) (w := w) (a := a) vs 0 #[] (by simpa using h)]
  simp [go_sem]

theorem tySh_leaf {t : TypeId} {l : Leaf} (h : tySh P t = some (.leaf l)) : isAggT P t = false ∧ ∃ d, P.underlying t = some d := by
  unfold tySh at h
  split at h
  · rename_i es hu
    exfalso
    generalize es.toList = L at h
    cases L with
    | nil => simp at h
    | cons t L =>
      simp only [List.foldr_cons] at h
      split at h <;> simp_all
  · split at h
    · simp at h
    · rename_i h1 h2
      refine ⟨h1, ?_⟩
      cases hu : P.underlying t with
      | none => simp [flat, hu] at h2
      | some d => exact ⟨d, rfl⟩
    · simp at h
theorem tySh_agg {t : TypeId} {ls : List Leaf} (h : tySh P t = some (.agg ls)) : isAggT P t = true ∧ ∃ d, P.underlying t = some d := by
  unfold tySh at h
  split at h
  · rename_i es hu
    exfalso
    generalize es.toList = L at h
    cases L with
    | nil => simp at h
    | cons t L =>
      simp only [List.foldr_cons] at h
      split at h <;> simp_all
  · split at h
    · rename_i h1 h2
      refine ⟨h1, ?_⟩
      cases hu : P.underlying t with
      | none => simp [isAggT, hu] at h1
      | some d => exact ⟨d, rfl⟩
    · simp at h
    · simp at h
end Go.Vc
