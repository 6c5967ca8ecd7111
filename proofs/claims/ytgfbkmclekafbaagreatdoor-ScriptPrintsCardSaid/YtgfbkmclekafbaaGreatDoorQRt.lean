/- Arguments, read: a slice of like elements, and the numbers behind it; what was read reads on. No program in sight. -/
import Derived.Test.YtgfbkmclekafbaaGreatDoorQRd
import Derived.Carry
import Derived.ChangeSame
import Derived.WideShapes
set_option linter.unusedVariables false
set_option linter.unusedSimpArgs false
set_option linter.unnecessarySimpa false
namespace Go.Vc
open Go
section
variable {H : Type} {enc : TypeId × Value → H} {P : Program} {w : World} {base : Nat} {spare : Nat → Bool} {held : Bool}

theorem spot_none {w : World} {a : Addr} {v : Value} (h : w.cell? a = some v) : a.spot = none := by
  unfold World.cell? at h
  split at h
  · split at h
    · cases h
    · rename_i hs; simpa using hs
  · cases h

/-- elements that lie one behind the other, from what each reads as -/
theorem rows_of {α : Type} {f : α → List Value} {good : α → Prop} {a : Addr} {k : Nat} (hf : ∀ x, (f x).length = k) (n : Nat) (h : ∀ i, i < n → ∃ x, good x ∧ ∀ j (hj : j < (f x).length), w.cell? ((a.add (i * k)).add j) = some (f x)[j]) :
    ∃ as : List α, as.length = n ∧ (∀ x ∈ as, good x) ∧ ((as.map f).flatten).length = n * k ∧ ∀ i (hi : i < ((as.map f).flatten).length), w.cell? (a.add i) = some ((as.map f).flatten)[i] := by
  induction n with
  | zero => exact ⟨[], rfl, by simp, by simp, by intro i hi; simp at hi⟩
  | succ n ih =>
    obtain ⟨as, h1, h2, h3, h4⟩ := ih (fun i hi => h i (by omega))
    obtain ⟨x, hg, hx⟩ := h n (by omega)
    refine ⟨as ++ [x], by simp [h1], ?_, ?_, ?_⟩
    · intro y hy
      rcases List.mem_append.1 hy with hy | hy
      · exact h2 y hy
      · simp only [List.mem_singleton] at hy; subst hy; exact hg
    · simp only [List.map_append, List.map_cons, List.map_nil, List.flatten_append, List.flatten_cons, List.flatten_nil, List.append_nil, List.length_append, h3, hf x]
      rw [Nat.succ_mul]
    · have e : ((as ++ [x]).map f).flatten = (as.map f).flatten ++ f x := by simp
      rw [e]
      intro i hi
      by_cases hlt : i < ((as.map f).flatten).length
      · rw [h4 i hlt, List.getElem_append_left hlt]
      · rw [List.length_append] at hi
        have hj : i - n * k < (f x).length := by omega
        have := hx (i - n * k) hj
        rw [add_add, show n * k + (i - n * k) = i by omega] at this
        rw [this, List.getElem_append_right (by omega)]
        congr 2
        omega

/-- a slice of like elements, read -/
theorem open_rows {α : Type} {f : α → List Value} {good : α → Prop} {t e : TypeId} {k fuel : Nat} {cs : List Value} {x : DataW H × List MemPlace} (ht : P.underlying t = some (.slice e)) (hc : P.cellsOf e = k) (hk : 0 < k) (hf : ∀ a, (f a).length = k)
    (he : ∀ n c y, DataW.trod enc P w base spare held n e c = some y → ∃ a, c = f a ∧ good a) (h : DataW.trod enc P w base spare held fuel t cs = some x) :
    ∃ (q : Option Addr) (l c : Nat) (as : List α), cs = [.slice q l c] ∧ as.length = l ∧ Cells w q ((as.map f).flatten) ∧ (∀ a ∈ as, good a) ∧ l ≤ c ∧ c ≤ maxLen ∧ ((x.1 = .nil ∧ l = 0) ∨ ∃ es sp, x.1 = .slice es sp ∧ es.length = l) := by
  rcases DataW.trod_slice ht h with ⟨rfl, rfl⟩ | ⟨a, len, cap, elems, rest, n, _, rfl, rfl, hb, hl, hm, hlen, hel, _, _⟩
  · exact ⟨none, 0, 0, [], rfl, rfl, .inl rfl, by simp, Nat.le_refl _, by simp [maxLen], .inl ⟨rfl, rfl⟩⟩
  · rw [hc] at hel
    have each : ∀ i, i < len → ∃ x, good x ∧ ∀ j (hj : j < (f x).length), w.cell? ((a.add (i * k)).add j) = some (f x)[j] := by
      intro i hi
      have h0 := hel i hi
      rw [List.getElem?_eq_getElem (by omega)] at h0
      obtain ⟨ec, h1, h2⟩ := Option.bind_eq_some_iff.1 h0
      obtain ⟨x, rfl, hg⟩ := he _ _ _ h2
      obtain ⟨_, h3, h4⟩ := World.cells?_some h1
      refine ⟨x, hg, fun j hj => ?_⟩
      rw [h4 j (by omega)]
      exact List.getElem?_eq_getElem hj
    obtain ⟨as, h1, h2, h3, h4⟩ := rows_of hf len each
    refine ⟨some a, len, cap, as, rfl, h1, ?_, h2, hl, hm, .inr ⟨_, _, rfl, by simpa using hlen⟩⟩
    by_cases h0 : len = 0
    · left
      apply List.eq_nil_of_length_eq_zero
      rw [h3, h0, Nat.zero_mul]
    · right
      refine ⟨a, rfl, ?_, h4⟩
      have hp : 0 < ((as.map f).flatten).length := by rw [h3]; exact Nat.mul_pos (by omega) hk
      have := h4 0 hp
      simpa [Addr.add] using spot_none this

theorem open_i64 {t : TypeId} {fuel : Nat} {cs : List Value} {x : DataW H × List MemPlace} (ht : P.underlying t = some (.int .i64)) (h : DataW.trod enc P w base spare held fuel t cs = some x) :
    ∃ n : Int, cs = [.int .i64 n] ∧ -9223372036854775808 ≤ n ∧ n ≤ 9223372036854775807 := by
  obtain ⟨n, rfl, _, hw⟩ := DataW.trod_int ht h
  simp only [Lit.wf, Bool.and_eq_true, decide_eq_true_eq] at hw
  exact ⟨n, rfl, hw.1, hw.2⟩
theorem open_u64 {t : TypeId} {fuel : Nat} {cs : List Value} {x : DataW H × List MemPlace} (ht : P.underlying t = some (.int .u64)) (h : DataW.trod enc P w base spare held fuel t cs = some x) :
    ∃ n : Nat, cs = [.int .u64 n] ∧ n < 18446744073709551616 := by
  obtain ⟨n, rfl, _, hw⟩ := DataW.trod_int ht h
  simp only [Lit.wf, Bool.and_eq_true, decide_eq_true_eq] at hw
  have h0 : (0 : Int) ≤ n := hw.1
  have h1 : n ≤ 18446744073709551615 := hw.2
  refine ⟨n.toNat, by rw [Int.toNat_of_nonneg h0], by omega⟩
theorem open_f64 {t : TypeId} {fuel : Nat} {cs : List Value} {x : DataW H × List MemPlace} (ht : P.underlying t = some (.float .f64)) (h : DataW.trod enc P w base spare held fuel t cs = some x) :
    ∃ n : Nat, cs = [.float .f64 n] ∧ n < 18446744073709551616 := by
  cases fuel with
  | zero => simp [DataW.trod] at h
  | succ n =>
    unfold DataW.trod at h
    rw [ht] at h
    split at h <;> simp_all
    obtain ⟨⟨h1, h⟩, _⟩ := h
    rename_i hk _
    subst hk
    simpa [Lit.wf] using h

/-- what was read reads on, while nothing of the past turns -/
theorem kept_trod {t : TypeId} (hl : laidOutB P = true) (hr : P.readableRec t = true) (hrow : t < P.types.size) {W W' : World} {v : Value} {d : DataW H} {ps : List MemPlace}
    (h : DataW.Trod enc P W 0 (fun _ => true) true t v d ps) (hx : ∀ k, k < W.heap.size → W'.heap[k]? = W.heap[k]?) (hlt : ∀ x ∈ ps, x.block < W.heap.size) :
    DataW.Trod enc P W' 0 (fun b => decide (b < W.heap.size)) true t v d ps :=
  WideElems.Trod_stays hl hr hrow h (fun p hp => by
    have := hx _ (hlt p hp)
    cases p with
    | cell b o => simp only [MemPlace.block] at this; simp only [World.sameAt, World.cell?, this]
    | map b => simp only [MemPlace.block] at this; simp only [World.sameAt, this]) (fun x hx => by simpa using hlt x hx)
theorem kept_all (hl : laidOutB P = true) {W W' : World} (hx : ∀ k, k < W.heap.size → W'.heap[k]? = W.heap[k]?) : ∀ {ts : List TypeId} {vs : List Value} {ds : List (DataW H)} {ps : List MemPlace}, (∀ t ∈ ts, P.readableRec t = true ∧ t < P.types.size) →
    DataW.TrodAll enc P W 0 (fun _ => true) true ts vs ds ps → (∀ x ∈ ps, x.block < W.heap.size) → DataW.TrodAll enc P W' 0 (fun b => decide (b < W.heap.size)) true ts vs ds ps
  | [], _, _, _, _, h, _ => by
    obtain ⟨rfl, rfl, rfl⟩ := ChangeShapes.trodAll_nil h
    trivial
  | t :: ts, _, _, _, ht, h, hlt => by
    obtain ⟨v, vs, d, ds, p, q, rfl, rfl, rfl, h1, h2⟩ := ChangeShapes.trodAll_cons h
    exact ⟨p, q, kept_trod hl (ht t (by simp)).1 (ht t (by simp)).2 h1 hx (fun x hx => hlt x (by simp [hx])), kept_all hl hx (fun u hu => ht u (by simp [hu])) h2 (fun x hx => hlt x (by simp [hx])), rfl⟩
end
end Go.Vc
