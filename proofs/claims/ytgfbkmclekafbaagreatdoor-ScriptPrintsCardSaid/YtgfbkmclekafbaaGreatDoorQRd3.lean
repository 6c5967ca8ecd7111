/- Ranges over strings of plain letters. No program in sight. -/
import Derived.Test.YtgfbkmclekafbaaGreatDoorQRd2
import Derived.Laws.RangeString
set_option linter.unusedVariables false
set_option linter.unusedSimpArgs false
set_option linter.unnecessarySimpa false
namespace Go.Vc
open Go Go.RowKit
variable {P : Program}

theorem range_str {t : TypeId} {s : ByteArray} {w : World} {K : Value → World → Prop} {X : List PanicEntry → World → Prop} (ht : P.underlying t = some .string)
    (hK : ∀ b w1, b = w.heap.size → w1.heap[b]? = some (.stringIter s 0) → Ext w w1 → w1.heap.size = w.heap.size + 1 → K (.pointer (some ⟨b, 0, none⟩)) w1) :
    runV P (Instr.range t (.string s)) w K X := by
  refine runV_ok (run_range_string w t s ht) ?_
  refine hK _ _ rfl (World.iter_heap w s 0) ?_ ?_
  · unfold World.iter; exact Upd.alloc _
  · unfold World.iter; exact Array.size_push _
theorem next_end {ty : TypeId} {s : ByteArray} {pos b : Nat} {w : World} {E : Value → Value → World → Prop} {O : World → Prop} {X : List PanicEntry → World → Prop}
    (hb : w.heap[b]? = some (.stringIter s pos)) (hp : ¬ pos < s.size) (hK : O w) :
    runV P (Instr.next (.pointer (some ⟨b, 0, none⟩)) true ty) w (fun v w1 => nxt v (fun x y => E x y w1) (O w1)) X := by
  have hr : (Instr.next (.pointer (some ⟨b, 0, none⟩)) true ty).run P w = .ok (.tuple #[.bool false]) w := by
    simp [Instr.next, getObj, Sem.run, hb, hp]
  exact runV_ok hr hK
theorem next_letter {ty : TypeId} {s : ByteArray} {pos b : Nat} {c : UInt8} {w : World} {E : Value → Value → World → Prop} {O : World → Prop} {X : List PanicEntry → World → Prop}
    (hb : w.heap[b]? = some (.stringIter s pos)) (hc : s.data.toList[pos]? = some c) (ha : c.toNat < 128)
    (hK : ∀ w1, w1.heap[b]? = some (.stringIter s (pos + 1)) → Upd (fun i => i = b) w w1 → w1.heap.size = w.heap.size → E (.int .i64 pos) (.int .i32 c.toNat) w1) :
    runV P (Instr.next (.pointer (some ⟨b, 0, none⟩)) true ty) w (fun v w1 => nxt v (fun x y => E x y w1) (O w1)) X := by
  have hlt : b < w.heap.size := blk_lt hb
  obtain ⟨hp0, hpe⟩ := List.getElem?_eq_some_iff.1 hc
  have hp : pos < s.size := by
    have : s.data.toList.length = s.size := by simp
    omega
  have he : s[pos]'hp = c := by rw [← hpe]; rfl
  have hr : (Instr.next (.pointer (some ⟨b, 0, none⟩)) true ty).run P w = .ok (.tuple #[.bool true, .int .i64 pos, .int .i32 c.toNat]) { w with heap := w.heap.setIfInBounds b (.stringIter s (pos + 1)) } := by
    simp only [Instr.next, getObj, setObj, Sem.run_bind, Sem.run, hb, Result.andThen, hp, if_true, decode_ascii s pos hp (by rw [he]; exact ha), he]
    simp [goInt]
  refine runV_ok hr (hK _ ?_ ⟨rfl, rfl, rfl, ?_, fun i hi hn => ?_⟩ ?_)
  · show (w.heap.setIfInBounds b _)[b]? = _
    rw [Array.getElem?_setIfInBounds_self_of_lt hlt]
  · show _ ≤ (w.heap.setIfInBounds b _).size
    rw [Array.size_setIfInBounds]; exact Nat.le_refl _
  · show (w.heap.setIfInBounds b _)[i]? = _
    rw [Array.getElem?_setIfInBounds_ne (fun h => hn h.symm)]
  · show (w.heap.setIfInBounds b _).size = _
    rw [Array.size_setIfInBounds]
theorem Upd.on {S S' : Nat → Prop} {w w1 w2 : World} (h : Upd S w w1) (hu : Upd S' w1 w2) (hS : ∀ i, S' i → S i ∨ w.heap.size ≤ i) : Upd S w w2 :=
  ⟨hu.os.trans h.os, hu.tape.trans h.tape, hu.output.trans h.output, Nat.le_trans h.size hu.size, fun i hi hn => (hu.block i (Nat.lt_of_lt_of_le hi h.size) fun hs => by
    rcases hS i hs with h' | h'
    · exact hn h'
    · omega).trans (h.block i hi hn)⟩
theorem Upd.then {S : Nat → Prop} {w w1 w2 : World} (h : Upd S w w1) (hx : Ext w1 w2) : Upd S w w2 := h.trans hx.to
theorem ld_add {w : World} {b o : Nat} {cs : Array Value} {T : TypeId} {fr : Nat × Nat} {v : Value} {K : Value → Prop} (h : w.heap[b]? = some (.cells cs T fr)) (ho : cs[o]? = some v) (hK : K v) : ld w ((⟨b, 0, none⟩ : Addr).add o) K := by
  rw [add_pl, Nat.zero_add]; exact ld_blk h ho hK
theorem cell_add {w : World} {b o : Nat} {cs : Array Value} {T : TypeId} {fr : Nat × Nat} {v : Value} (h : w.heap[b]? = some (.cells cs T fr)) (ho : cs[o]? = some v) : w.cell? ((⟨b, 0, none⟩ : Addr).add o) = some v := by
  rw [add_pl, Nat.zero_add]; exact cell_blk h ho
theorem st_add {w : World} {b o : Nat} {cs : Array Value} {T : TypeId} {v : Value} {K : World → Prop} (h : w.heap[b]? = some (.cells cs T (0, 0))) (ho : o < cs.size)
    (hK : ∀ w1, w1.heap[b]? = some (.cells (cs.setIfInBounds o v) T (0, 0)) → Upd (fun i => i = b) w w1 → w1.heap.size = w.heap.size → K w1) : st w ((⟨b, 0, none⟩ : Addr).add o) [v] K := by
  rw [add_pl, Nat.zero_add]; exact st1_el h ho hK
/-- the same, where the checks' order matters -/
theorem idx_str2 {w : World} {a : Option Addr} {cs : List ByteArray} (hc : Cells w a (cs.map Value.string)) {i l : Nat} (hl : l = cs.length) {x : ByteArray} (hx : cs[i]? = some x) {K : Addr → Prop} (hK : ∀ d, w.cell? d = some (.string x) → K d) :
    inB (i : Int) l ∧ nn a fun d1 => ∀ d, d = Addr.add d1 (scale (Int.toNat (i : Int)) 1) → K d := by
  obtain ⟨hi, he⟩ := List.getElem?_eq_some_iff.1 hx
  refine ⟨by unfold inB; omega, ?_⟩
  obtain ⟨d, hd, hcell⟩ := hc.at (i := i) (by simpa using hi)
  subst hd
  rintro d' rfl
  rw [scale_eq, Nat.mul_one, Int.toNat_natCast]
  refine hK _ ?_
  rw [hcell, List.getElem_map, he]
theorem cells_tail {w : World} {b n : Nat} {T : TypeId} {fr : Nat × Nat} {x : Value} {r : List Value} (h : w.heap[b]? = some (.cells (x :: r).toArray T fr)) (hn : n = r.length + 1) : Cells w (slA (some ⟨b, 0, none⟩) 1 n 1) r := by
  subst hn
  cases r with
  | nil => exact .inl rfl
  | cons y r =>
    refine .inr ⟨⟨b, 1, none⟩, ?_, rfl, fun i hi => ?_⟩
    · unfold slA; rw [if_neg (by simp)]; simp [add_pl]
    · rw [add_pl]; refine cell_blk h ?_
      rw [Nat.add_comm]
      simp [List.getElem?_eq_getElem hi]
theorem slA_blk {q l c sz : Nat} {d : Addr} (h : slA (some ⟨q, 0, none⟩) l c sz = some d) : d.block = q := by
  unfold slA at h
  split at h
  · cases h; rfl
  · simp only [Option.map_some, Option.some.injEq] at h; rw [← h, add_pl]
theorem info_of {e : TypeId} {size bytes : Nat} {z : Value} (h1 : (P.info? e).map (fun i => (i.size, i.bytes)) = some (size, bytes)) (h2 : (P.info? e).bind (·.zero) = some z) : ∃ i, P.info? e = some i ∧ i.size = size ∧ i.bytes = bytes ∧ i.zero = some z := by
  cases h : P.info? e with
  | none => rw [h] at h1; cases h1
  | some i =>
    rw [h] at h1 h2
    simp only [Option.map_some, Option.some.injEq, Prod.mk.injEq] at h1
    simp only [Option.bind_some] at h2
    exact ⟨i, rfl, h1.1, h1.2, h2⟩
/-- an element of a row of strings -/
theorem idx_str {w : World} {a : Option Addr} {cs : List ByteArray} (hc : Cells w a (cs.map Value.string)) {i l : Nat} (hl : l = cs.length) {x : ByteArray} (hx : cs[i]? = some x) {K : ByteArray → Prop} (hK : K x) :
    inB (i : Int) l ∧ nn a fun d1 => ∀ d, d = Addr.add d1 (scale (Int.toNat (i : Int)) 1) → ld w d fun v => asS v fun s => K s := by
  obtain ⟨hi, he⟩ := List.getElem?_eq_some_iff.1 hx
  refine ⟨by unfold inB; omega, ?_⟩
  obtain ⟨d, hd, hcell⟩ := hc.at (i := i) (by simpa using hi)
  subst hd
  rintro d' rfl
  rw [scale_eq, Nat.mul_one, Int.toNat_natCast]
  refine ld_cell hcell ?_
  rw [List.getElem_map, he]
  exact hK
theorem flat_at {α : Type} (f : α → List Value) (size : Nat) (hf : ∀ x, (f x).length = size) : ∀ (l : List α) (i : Nat) (x : α), l[i]? = some x → ∀ j (hj : j < size), (l.map f).flatten[i * size + j]? = (f x)[j]?
  | [], i, x, h, j, hj => by simp at h
  | y :: l, 0, x, h, j, hj => by
    simp only [List.getElem?_cons_zero, Option.some.injEq] at h
    subst h
    simp only [List.map_cons, List.flatten_cons, Nat.zero_mul, Nat.zero_add]
    rw [List.getElem?_append_left (by rw [hf]; exact hj)]
  | y :: l, i + 1, x, h, j, hj => by
    simp only [List.getElem?_cons_succ] at h
    simp only [List.map_cons, List.flatten_cons]
    rw [List.getElem?_append_right (by rw [hf, Nat.add_mul]; omega), hf, show (i + 1) * size + j - size = i * size + j by rw [Nat.add_mul]; omega]
    exact flat_at f size hf l i x h j hj
theorem flat_cells {α : Type} {f : α → List Value} {size : Nat} (hs : 0 < size) (hf : ∀ x, (f x).length = size) {w : World} {a : Option Addr} {l : List α} (hc : Cells w a (l.map f).flatten) {i : Nat} {x : α} (hx : l[i]? = some x) :
    ∃ d, a = some d ∧ ∀ j (hj : j < size), ∀ v, (f x)[j]? = some v → w.cell? ((d.add (i * size)).add j) = some v := by
  have h0 := flat_at f size hf l i x hx 0 hs
  have hlt0 : i * size + 0 < (l.map f).flatten.length := by
    rcases Nat.lt_or_ge (i * size + 0) (l.map f).flatten.length with h | h
    · exact h
    · rw [List.getElem?_eq_none h, List.getElem?_eq_getElem (by rw [hf]; exact hs)] at h0; cases h0
  obtain ⟨d, hd, _⟩ := hc.at hlt0
  refine ⟨d, hd, fun j hj v hv => ?_⟩
  have hj' := flat_at f size hf l i x hx j hj
  rw [hv] at hj'
  obtain ⟨hlt, he⟩ := List.getElem?_eq_some_iff.1 hj'
  obtain ⟨d', hd', hcell⟩ := hc.at hlt
  rw [hd] at hd'; cases hd'
  rw [add_add, hcell, he]
theorem add0 (a : Addr) : a.add 0 = a := rfl
end Go.Vc
