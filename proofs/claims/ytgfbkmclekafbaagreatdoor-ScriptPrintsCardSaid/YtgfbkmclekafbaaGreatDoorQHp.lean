/- Memory, as the proofs speak of it: blocks, frames, lists in slices. No program in sight. -/
import Derived.Test.YtgfbkmclekafbaaGreatDoorQVc13
import Derived.Laws.AppendOwn
import Derived.Below
set_option linter.unusedVariables false
set_option linter.unusedSimpArgs false
set_option linter.unnecessarySimpa false
namespace Go.Vc
open Go Go.RowKit
variable {P : Program}

theorem call_calls {f : FuncId} {args : List Value} {w : World} {R : Ending → World → Prop} {K : Value → World → Prop} {X : List PanicEntry → World → Prop}
    (h : Calls P f args.toArray w R) (hR : ∀ e w', R e w' → onRet K X e w') : call P f args w K X := Calls.mono h hR
theorem call_mono {f : FuncId} {args : List Value} {w : World} {K K' : Value → World → Prop} {X X' : List PanicEntry → World → Prop}
    (h : call P f args w K X) (hK : ∀ v w, K v w → K' v w) (hX : ∀ v w, X v w → X' v w) : call P f args w K' X' :=
  Calls.mono h (fun e w he => by cases e <;> first | exact hK _ _ he | exact hX _ _ he | exact he)
/-- a call that returns what a list of facts says -/
theorem call_ret {f : FuncId} {args : List Value} {w : World} {K : Value → World → Prop} {X : List PanicEntry → World → Prop} {R : Value → World → Prop}
    (h : Calls P f args.toArray w fun e w' => ∃ v, e = .returned v ∧ R v w') (hR : ∀ v w', R v w' → K v w') : call P f args w K X :=
  Calls.mono h (fun e w' ⟨v, he, hv⟩ => by subst he; exact hR v w' hv)

/-- a block's cells -/
def World.blk (w : World) (b : Nat) : Option Obj := w.heap[b]?
theorem ld_blk {w : World} {b o : Nat} {cs : Array Value} {T : TypeId} {fr : Nat × Nat} {v : Value} {K : Value → Prop} (h : w.heap[b]? = some (.cells cs T fr)) (ho : cs[o]? = some v) (hK : K v) : ld w ⟨b, o, none⟩ K := by
  simp [ld, World.cell?, h, ho, hK]
theorem ld_cell {w : World} {a : Addr} {v : Value} {K : Value → Prop} (h : w.cell? a = some v) (hK : K v) : ld w a K := by
  simp [ld, h, hK]
theorem cell_blk {w : World} {b o : Nat} {cs : Array Value} {T : TypeId} {fr : Nat × Nat} {v : Value} (h : w.heap[b]? = some (.cells cs T fr)) (ho : cs[o]? = some v) : w.cell? ⟨b, o, none⟩ = some v := by
  simp [World.cell?, h, ho]
theorem blk_lt {w : World} {b : Nat} {o : Obj} (h : w.heap[b]? = some o) : b < w.heap.size := (Array.getElem?_eq_some_iff.1 h).1
theorem cell_lt {w : World} {a : Addr} {v : Value} (h : w.cell? a = some v) : a.block < w.heap.size := by
  unfold World.cell? at h
  split at h
  · rename_i hb; exact blk_lt hb
  · simp at h

/-- w' is w but for the blocks in S (and new ones) -/
structure Upd (S : Nat → Prop) (w w' : World) : Prop where
  os : w'.os = w.os
  tape : w'.tape = w.tape
  output : w'.output = w.output
  size : w.heap.size ≤ w'.heap.size
  block : ∀ i, i < w.heap.size → ¬ S i → w'.heap[i]? = w.heap[i]?
theorem Upd.refl (S : Nat → Prop) (w : World) : Upd S w w := ⟨rfl, rfl, rfl, Nat.le_refl _, fun _ _ _ => rfl⟩
theorem Upd.trans {S : Nat → Prop} {w w' w'' : World} (h : Upd S w w') (h' : Upd S w' w'') : Upd S w w'' :=
  ⟨h'.os.trans h.os, h'.tape.trans h.tape, h'.output.trans h.output, Nat.le_trans h.size h'.size, fun i hi hs => (h'.block i (Nat.lt_of_lt_of_le hi h.size) hs).trans (h.block i hi hs)⟩
theorem Upd.mono {S S' : Nat → Prop} {w w' : World} (h : Upd S w w') (hs : ∀ i, i < w.heap.size → S i → S' i) : Upd S' w w' :=
  ⟨h.os, h.tape, h.output, h.size, fun i hi hn => h.block i hi fun hh => hn (hs i hi hh)⟩
abbrev Ext (w w' : World) : Prop := Upd (fun _ => False) w w'
theorem Ext.to {S : Nat → Prop} {w w' : World} (h : Ext w w') : Upd S w w' := h.mono fun _ _ h => h.elim
theorem Ext.of_below {w w' : World} {B : Nat} (h : Below B w w') (hB : w.heap.size ≤ B) : Ext w w' := ⟨h.os, h.tape, h.output, h.size, fun i hi _ => h.block i (Nat.lt_of_lt_of_le hi hB)⟩
theorem Upd.of_below {w w' : World} {B : Nat} (h : Below B w w') : Upd (fun i => B ≤ i) w w' := ⟨h.os, h.tape, h.output, h.size, fun i _ hn => h.block i (Nat.lt_of_not_le hn)⟩
theorem Upd.below {w w' : World} {B : Nat} (h : Upd (fun i => B ≤ i) w w') (hB : B ≤ w.heap.size) : Below B w w' := ⟨h.os, h.tape, h.output, h.size, fun i hi => h.block i (Nat.lt_of_lt_of_le hi hB) (Nat.not_le_of_lt hi)⟩
theorem Upd.alloc {S : Nat → Prop} {w : World} (o : Obj) : Upd S w (w.alloc o) := ⟨rfl, rfl, rfl, by show _ ≤ (w.heap.push o).size; rw [Array.size_push]; omega, fun i hi _ => by show (w.heap.push o)[i]? = _; rw [Array.getElem?_push_lt hi, Array.getElem?_eq_getElem hi]⟩
theorem Upd.drew {S : Nat → Prop} {w : World} : Upd S w w.drew := ⟨rfl, rfl, rfl, Nat.le_refl _, fun _ _ _ => rfl⟩
theorem Upd.setCell {S : Nat → Prop} {w : World} {a : Addr} {v : Value} (h : S a.block) : Upd S w (w.setCell a v) :=
  ⟨rfl, rfl, rfl, by simp, fun i hi hn => by
    simp only [World.setCell, Array.getElem?_modify]
    rw [if_neg]; rintro rfl; exact hn h⟩
theorem Upd.setAll {S : Nat → Prop} {a : Addr} (h : S a.block) : ∀ (vs : List Value) (w : World) (i : Nat), Upd S w (setAll w a i vs)
  | [], w, i => Upd.refl S w
  | v :: r, w, i => by
    have hb : (a.add i).block = a.block := by unfold Addr.add; split <;> rfl
    exact (Upd.setCell (by rw [hb]; exact h)).trans (Upd.setAll h r _ (i + 1))
theorem Upd.blk {S : Nat → Prop} {w w' : World} (h : Upd S w w') {b : Nat} {o : Obj} (hb : w.heap[b]? = some o) (hn : ¬ S b) : w'.heap[b]? = some o := by rw [h.block b (blk_lt hb) hn]; exact hb
theorem Upd.cell {S : Nat → Prop} {w w' : World} (h : Upd S w w') {a : Addr} {v : Value} (hb : w.cell? a = some v) (hn : ¬ S a.block) : w'.cell? a = some v := by
  rw [← hb]; exact World.cell?_of_block (h.block _ (cell_lt hb) hn)

/-- a new block -/
theorem al_el {w : World} {o : Obj} {K : Nat → World → Prop} (h : ∀ b w1, b = w.heap.size → w1.heap[b]? = some o → Ext w w1 → w1.heap.size = w.heap.size + 1 → K b w1) : al w o K := by
  intro b w1 hb hw
  subst hb hw
  exact h _ _ rfl (show (w.heap.push o)[w.heap.size]? = some o from Array.getElem?_push_size) (Upd.alloc o) (show (w.heap.push o).size = _ from Array.size_push _)
theorem setAll_blk {b : Nat} {T : TypeId} {fr : Nat × Nat} : ∀ (vs : List Value) (w : World) (cs : Array Value) (o i : Nat), w.heap[b]? = some (.cells cs T fr) →
    (setAll w ⟨b, o, none⟩ i vs).heap[b]? = some (.cells (setFrom cs.toList (o + i) vs).toArray T fr)
  | [], w, cs, o, i, h => by simpa [setAll, setFrom] using h
  | v :: r, w, cs, o, i, h => by
    simp only [setAll, setFrom]
    have ha : (⟨b, o, none⟩ : Addr).add i = ⟨b, o + i, none⟩ := by unfold Addr.add; split <;> simp_all
    have h1 : (w.setCell ((⟨b, o, none⟩ : Addr).add i) v).heap[b]? = some (.cells (cs.setIfInBounds (o + i) v) T fr) := by
      rw [ha]; simp [World.setCell, Array.getElem?_modify, h]
    have := setAll_blk r _ _ o (i + 1) h1
    rw [this]
    simp [Nat.add_assoc]
theorem setAll_size (a : Addr) : ∀ (vs : List Value) (w : World) (i : Nat), (setAll w a i vs).heap.size = w.heap.size
  | [], w, i => rfl
  | v :: r, w, i => by simp only [setAll]; rw [setAll_size]; simp
/-- a store into a block of one's own -/
theorem st_el {w : World} {b o : Nat} {cs : Array Value} {T : TypeId} {vs : List Value} {K : World → Prop} (h : w.heap[b]? = some (.cells cs T (0, 0))) (ho : o + vs.length ≤ cs.size)
    (hK : ∀ w1, w1.heap[b]? = some (.cells (setFrom cs.toList o vs).toArray T (0, 0)) → Upd (fun i => i = b) w w1 → w1.heap.size = w.heap.size → K w1) : st w ⟨b, o, none⟩ vs K := by
  refine ⟨?_, fun w1 hw => ?_⟩
  · intro i hi
    have ha : (⟨b, o, none⟩ : Addr).add i = ⟨b, o + i, none⟩ := by unfold Addr.add; split <;> simp_all
    rw [ha]
    have hlt : o + i < cs.size := by omega
    constructor
    · simp [World.cell?, h, hlt]
    · simp [World.frozen?, h]
  · subst hw
    exact hK _ (by simpa using setAll_blk vs w cs o 0 h) (Upd.setAll (S := fun i => i = b) (a := ⟨b, o, none⟩) rfl vs w 0) (setAll_size _ vs w 0)
/-- one cell -/
theorem st1_el {w : World} {b o : Nat} {cs : Array Value} {T : TypeId} {v : Value} {K : World → Prop} (h : w.heap[b]? = some (.cells cs T (0, 0))) (ho : o < cs.size)
    (hK : ∀ w1, w1.heap[b]? = some (.cells (cs.setIfInBounds o v) T (0, 0)) → Upd (fun i => i = b) w w1 → w1.heap.size = w.heap.size → K w1) : st w ⟨b, o, none⟩ [v] K :=
  st_el h (by simp; omega) fun w1 h1 h2 h3 => hK w1 (by rw [h1]; congr 2; apply Array.ext'; simp [setFrom]) h2 h3

/-- the cells from an address on -/
def Cells (w : World) (a : Option Addr) (cs : List Value) : Prop := cs = [] ∨ ∃ d, a = some d ∧ d.spot = none ∧ ∀ i (h : i < cs.length), w.cell? (d.add i) = some cs[i]
theorem Cells.upd {S : Nat → Prop} {w w' : World} {a : Option Addr} {cs : List Value} (h : Cells w a cs) (hu : Upd S w w') (hn : ∀ d, a = some d → ¬ S d.block) : Cells w' a cs := by
  rcases h with h | ⟨d, h1, h2, h3⟩
  · exact .inl h
  · refine .inr ⟨d, h1, h2, fun i hi => hu.cell (h3 i hi) ?_⟩
    have hb : (d.add i).block = d.block := by unfold Addr.add; split <;> rfl
    rw [hb]; exact hn d h1
theorem Cells.ext {w w' : World} {a : Option Addr} {cs : List Value} (h : Cells w a cs) (hu : Ext w w') : Cells w' a cs := h.upd hu fun _ _ h => h
theorem Cells.lt {w : World} {a : Option Addr} {cs : List Value} (h : Cells w a cs) {d : Addr} (hd : a = some d) (hne : cs ≠ []) : d.block < w.heap.size := by
  rcases h with h | ⟨d', h1, h2, h3⟩
  · exact absurd h hne
  · rw [hd] at h1; cases h1
    have hp : 0 < cs.length := List.length_pos_iff.2 hne
    have := cell_lt (h3 0 hp)
    simpa [Addr.add] using this
theorem add_add (a : Addr) (i j : Nat) : (a.add i).add j = a.add (i + j) := by
  unfold Addr.add
  split <;> split <;> split <;> first | rfl | (simp_all; done) | (simp; omega) | omega
theorem Cells.at {w : World} {a : Option Addr} {cs : List Value} (h : Cells w a cs) {i : Nat} (hi : i < cs.length) : ∃ d, a = some d ∧ w.cell? (d.add i) = some cs[i] := by
  rcases h with h | ⟨d, h1, h2, h3⟩
  · subst h; simp at hi
  · exact ⟨d, h1, h3 i hi⟩
/-- rounds: an invariant and a measure -/
theorem rounds_el {σ : Type} {f : σ → List Value} {B : (List Value → World → Prop) → σ → World → Prop} (I : σ → World → Prop) (μ : σ → World → Nat)
    (step : ∀ s w, I s w → ∀ L : List Value → World → Prop, (∀ s' w', I s' w' → μ s' w' < μ s w → L (f s') w') → B L s w) (s : σ) (w : World) (h : I s w) :
    ∀ L : List Value → World → Prop, (∀ s w, B L s w → L (f s) w) → L (f s) w := by
  intro L hL
  have key : ∀ n s w, μ s w = n → I s w → L (f s) w := by
    intro n
    induction n using Nat.strongRecOn with
    | _ n ih =>
      intro s w hn hI
      exact hL s w (step s w hI L fun s' w' h' hlt => ih _ (hn ▸ hlt) s' w' rfl h')
  exact key _ s w rfl h
end Go.Vc
