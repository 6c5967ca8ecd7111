/- A row with room, made; a slice of any length appended; a store into a row. No program in sight. -/
import Derived.Test.YtgfbkmclekafbaaGreatDoorQRd4
import Derived.Laws.MakeOwn
set_option linter.unusedVariables false
set_option linter.unusedSimpArgs false
set_option linter.unnecessarySimpa false
namespace Go.Vc
open Go
variable {P : Program}

theorem make_el {t e : TypeId} {i : TypeInfo} {z : Value} {size : Nat} (ht : P.underlying t = some (.slice e)) (hi : P.info? e = some i) (hz : i.zero = some z) (hsize : i.size = size) {w : World} {c : Nat}
    (hb : i.bytes * c ≤ 281474976710656) (hm : c ≤ maxLen) {K : Value → World → Prop} {X : List PanicEntry → World → Prop}
    (hK : ∀ w', Row w' e size (some ⟨w.heap.size, 0, none⟩) 0 c [] → Ext w w' → K (.slice (some ⟨w.heap.size, 0, none⟩) 0 c) w') :
    runV P (Instr.makeSlice t (.int .i64 0) (.int .i64 (c : Int))) w K X := by
  obtain ⟨w', hrun, r1, r2⟩ := run_make_own (P := P) w 0 t e i z size ht hi hz hsize .i64 .i64 c hb hm (Nat.zero_le _)
  exact runV_ok hrun (hK w' r1 ((Upd.grown r2).mono fun _ _ h => by cases h))

theorem append_zero {t ty e : TypeId} {i : TypeInfo} (ht : P.underlying t = some (.slice e)) (hi : P.info? e = some i) {w : World} {a q : Option Addr} {n c c' : Nat} (hc : n ≤ c)
    {K : Value → World → Prop} {X : List PanicEntry → World → Prop} (hK : K (.slice a n c) w) : runV P (Builtin.append_ #[t, t] ty #[.slice a n c, .slice q 0 c']) w K X := by
  have hf : (Builtin.firstCells i.size 0 (.slice q 0 c')).run P w = .ok #[] w := by
    cases q with
    | none => exact run_firstCells_none _ _ _ _ _
    | some d => exact run_firstCells_some (P := P) w i.size 0 d 0 c' [] (by simp) (by intro j v h; simp at h)
  refine runV_ok ?_ hK
  cases a with
  | none => simp [Builtin.append_, run_underlying ht, sizeOf, typeInfo, hi, Builtin.lenOf, hc, hf]
  | some d => simp [Builtin.append_, run_underlying ht, sizeOf, typeInfo, hi, Builtin.lenOf, hc, hf, storeCells]

theorem append_any {t ty e : TypeId} {i : TypeInfo} {z : Value} {size bytes : Nat} (ht : P.underlying t = some (.slice e)) (hi : P.info? e = some i) (hz : i.zero = some z)
    (hsize : i.size = size) (hby : i.bytes = bytes) (hzs : z.cells.size = size) (hsz : 0 < size)
    {w : World} {a : Option Addr} {n c : Nat} {xs : List Value} (hown : Row w e size a n c xs)
    {q : Option Addr} {m c' : Nat} {news : List Value} (hl : news.length = m * size) (hnews : Cells w q news) (h1 : ∀ u ∈ news, u.oneCell' = true)
    (h63 : n + m ≤ maxLen) (hbytes : (n + m) * bytes ≤ 140737488355328) {K : Value → World → Prop} {X : List PanicEntry → World → Prop}
    (hK : ∀ a' c' w', Row w' e size a' (n + m) c' (xs ++ news) → Upd (fun i => blkOf a = some i) w w' → (∀ b, blkOf a' = some b → blkOf a = some b ∨ w.heap.size ≤ b) → K (.slice a' (n + m) c') w') :
    runV P (Builtin.append_ #[t, t] ty #[.slice a n c, .slice q m c']) w K X := by
  by_cases hm : m = 0
  · subst hm
    have hn : news = [] := List.eq_nil_of_length_eq_zero (by simpa using hl)
    subst hn
    refine append_zero ht hi hown.le.1 ?_
    exact hK a c w (by simpa using hown) (Upd.refl _ _) (fun b hb => .inl hb)
  · rcases hnews with h | ⟨d, rfl, hd, hc⟩
    · exfalso; have hp := Nat.mul_pos (show 0 < m by omega) hsz; rw [h] at hl; simp only [List.length_nil] at hl; omega
    · exact append_row ht hi hz hsize hby hzs hsz hown hl (.inr ⟨d, rfl, hd, hc⟩) h1 (by omega) h63 hbytes hK

theorem setFrom_len : ∀ (vs cs : List Value) (o : Nat), (setFrom cs o vs).length = cs.length
  | [], cs, o => rfl
  | v :: r, cs, o => by rw [setFrom, setFrom_len r]; simp

theorem row_st {w : World} {e : TypeId} {size : Nat} {d : Addr} {n c i : Nat} {xs vs : List Value} {K : World → Prop} (h : Row w e size (some d) n c xs) (hi : i < n) (hv : vs.length = size)
    (hK : ∀ w1 xs', Row w1 e size (some d) n c xs' → Upd (fun b => b = d.block) w w1 → K w1) : st w (d.add (i * size)) vs K := by
  rcases h.2 with ⟨he, hn⟩ | ⟨g, cap, cur, he, hb, hg, h1, h2, h3, h4⟩
  · cases he
  · cases he
    have hm : (i + 1) * size ≤ c * size := Nat.mul_le_mul_right _ (by omega)
    rw [Nat.succ_mul] at hm
    rw [add_pl, Nat.zero_add]
    refine st_el hg (by omega) fun w1 g1 u1 s1 => ?_
    refine hK w1 ((setFrom cur.toList (i * size) vs).take (n * size)) ⟨?_, .inr ⟨g, c, _, rfl, hb, g1, h1, h2, ?_, ?_⟩⟩ u1
    · rw [List.length_take, setFrom_len, Array.length_toList, h3]; exact Nat.min_eq_left (Nat.mul_le_mul_right _ h1)
    · rw [List.size_toArray, setFrom_len, Array.length_toList, h3]
    · rfl
end Go.Vc
