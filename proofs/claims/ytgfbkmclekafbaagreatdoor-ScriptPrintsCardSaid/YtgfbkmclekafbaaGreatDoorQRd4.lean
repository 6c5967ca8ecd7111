/- A row that came out of a conversion, appended to; the conversion itself. No program in sight. -/
import Derived.Test.YtgfbkmclekafbaaGreatDoorQRd3
set_option linter.unusedVariables false
set_option linter.unusedSimpArgs false
set_option linter.unnecessarySimpa false
namespace Go.Vc
open Go
variable {P : Program}

theorem append_str_grow {t u ty e : TypeId} {i : TypeInfo} (ht : P.underlying t = some (.slice e)) (hu : P.underlying u = some .string) (hi : P.info? e = some i) (hz : i.zero = some (.int .u8 0))
    (hsize : i.size = 1) (hby : i.bytes = 1) {w : World} {g n c : Nat} {xs : List Value} (hxl : xs.length = n) (holds : Cells w (some ⟨g, 0, none⟩) xs) {s : ByteArray} (hc : c < n + s.size) (hcm : c ≤ maxLen)
    (h47 : n + s.size ≤ 140737488355328) {K : Value → World → Prop} {X : List PanicEntry → World → Prop}
    (hK : ∀ a' c' w', Row w' e 1 a' (n + s.size) c' (xs ++ Lib.strCells s) → Ext w w' → (∀ b, blkOf a' = some b → w.heap.size ≤ b) → K (.slice a' (n + s.size) c') w') :
    runV P (Builtin.append_ #[t, u] ty #[.slice (some ⟨g, 0, none⟩) n c, .string s]) w K X := by
  have h63 : n + s.size ≤ maxLen := by simp only [maxLen]; omega
  have hlen : (xs ++ Lib.strCells s).length = (n + s.size) * 1 := by rw [List.length_append, hxl, Lib.strCells_length, Nat.mul_one]
  have hge := grownCap_ge w (n + s.size) c e
  have hcm' : grownCap w (n + s.size) c e ≤ maxLen := grownCap_le_maxLen w (n + s.size) c e h63
  have hrow : Row (w.drew.alloc (.cells (xs.toArray ++ (Lib.strCells s).toArray ++ Builtin.zeroCells (Value.int .u8 0).cells (grownCap w (n + s.size) c e - (n + s.size))) e)) e 1 (some ⟨w.heap.size, 0, none⟩) (n + s.size) (grownCap w (n + s.size) c e) (xs ++ Lib.strCells s) := by
    refine ⟨hlen, .inr ⟨w.heap.size, _, _, rfl, Nat.zero_le _, heap_alloc_new w.drew _, hge, hcm', ?_, ?_⟩⟩
    · have hz1 : (Value.int IntKind.u8 0).cells.size = 1 := rfl
      simp only [Array.size_append, List.size_toArray, size_zeroCells, hz1, hxl, Lib.strCells_length]
      omega
    · simp only [Array.toList_append, List.append_assoc]
      rw [← List.append_assoc, ← hlen]
      exact List.take_left
  have holds' : ∀ j u, xs[j]? = some u → w.cell? ((⟨g, 0, none⟩ : Addr).add j) = some u := by
    intro j u hj
    obtain ⟨hlt, rfl⟩ := List.getElem?_eq_some_iff.1 hj
    obtain ⟨d, hd, hcell⟩ := holds.at hlt
    cases hd
    exact hcell
  have hr := Lib.run_append_grow_string (P := P) w t u ty e i (.int .u8 0) ht hu hi hz ⟨g, 0, none⟩ n c xs (by rw [hsize]; simpa using hxl) holds' s (by omega) (by omega) (by rw [hby]; exact growslice_fits (by omega) (by omega))
  exact runV_ok hr (hK _ _ _ hrow Ext.alloc_drew (fun b hb => by simp [blkOf] at hb; omega))

theorem conv_same {t e : TypeId} (ht : P.underlying t = some (.slice e)) (he : P.underlying e = some (.int .u8)) {w : World} {g l c : Nat} {cs : Array Value} {T : TypeId} (h : w.heap[g]? = some (.cells cs T (0, 0)))
    {K : Value → World → Prop} {X : List PanicEntry → World → Prop} (hK : ∀ w', Upd (fun i => i = g) w w' → w'.heap[g]? = some (.cells cs T (cs.size, cs.size + 1)) → K (.slice (some ⟨g, 0, none⟩) l c) w') :
    runV P (convert t t (.slice (some ⟨g, 0, none⟩) l c)) w K X := by
  have hlt := blk_lt h
  have hs : w.shape? g = some (T, cs.size) := by simp [World.shape?, h]
  have hr : (convert t t (.slice (some ⟨g, 0, none⟩) l c)).run P w = .ok (.slice (some ⟨g, 0, none⟩) l c) (w.freeze ⟨g, cs.size, none⟩ 1) := by
    simp [convert, run_underlying ht, run_underlying he, markStringish, hs]
  refine runV_ok hr (hK _ ⟨rfl, rfl, rfl, ?_, ?_⟩ ?_)
  · simp [World.freeze]
  · intro i hi hne
    simp only [World.freeze, Nat.one_ne_zero, if_false]
    rw [Array.getElem?_modify, if_neg (fun hh => hne hh.symm)]
  · simp only [World.freeze, Nat.one_ne_zero, if_false]
    rw [Array.getElem?_modify, if_pos rfl, h]
    rfl
end Go.Vc
