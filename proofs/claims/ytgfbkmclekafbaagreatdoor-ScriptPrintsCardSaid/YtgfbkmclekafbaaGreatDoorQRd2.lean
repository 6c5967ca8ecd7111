/- Bytes and strings: the two conversions; a row of bytes that a call fills. No program in sight. -/
import Derived.Test.YtgfbkmclekafbaaGreatDoorQRd
import Derived.Laws.IdiomStrings
import Derived.Laws.BytesArg
import Derived.Lib.ConvBytes
import Derived.Lib.ItoaMem
import Derived.Lib.AppendIntMem
set_option linter.unusedVariables false
set_option linter.unusedSimpArgs false
set_option linter.unnecessarySimpa false
namespace Go.Vc
open Go Go.RowKit
variable {P : Program}

theorem ld_at {w : World} {d : Addr} {cs : List Value} {i : Nat} {K : Value → Prop} (h : ∀ i (h : i < cs.length), w.cell? (d.add i) = some cs[i]) (hi : i < cs.length) (hK : K cs[i]) : ld w (d.add i) K := ld_cell (h i hi) hK
theorem add_pl (b o j : Nat) : (⟨b, o, none⟩ : Addr).add j = ⟨b, o + j, none⟩ := by unfold Addr.add; split <;> simp_all

theorem Ext.upd {S : Nat → Prop} {w w1 w2 : World} (h : Ext w w1) (hu : Upd S w1 w2) (hS : ∀ i, S i → w.heap.size ≤ i) : Ext w w2 :=
  ⟨hu.os.trans h.os, hu.tape.trans h.tape, hu.output.trans h.output, Nat.le_trans h.size hu.size, fun i hi hn => (hu.block i (Nat.lt_of_lt_of_le hi h.size) fun hs => by have := hS i hs; omega).trans (h.block i hi hn)⟩
def byteVal (b : UInt8) : Value := .int .u8 (b.toNat : Int)
/-- the string of a row of bytes -/
theorem conv_str {src dst e : TypeId} (hs : P.underlying src = some (.slice e)) (he : P.underlying e = some (.int .u8)) (hd : P.underlying dst = some .string)
    {w : World} {a : Option Addr} {n c : Nat} {l : List UInt8} (hn : n = l.length) (h : Cells w a (l.map byteVal)) {K : Value → World → Prop} {X : List PanicEntry → World → Prop} (hK : K (.string ⟨l.toArray⟩) w) :
    runV P (convert src dst (.slice a n c)) w K X := by
  subst hn
  cases a with
  | none =>
    rcases h with h | ⟨d, hd', _⟩
    · have : l = [] := by simpa using h
      subst this
      refine runV_ok (v := .string ⟨#[]⟩) (w' := w) ?_ hK
      rw [run_convert_bytes_string w src dst e none _ c hs he hd]
      simp [Conv.bytesToString]
      rfl
    · cases hd'
  | some a =>
    refine runV_ok (run_convert_bytes_back w src dst e a c l hs he hd ?_) hK
    intro j hj
    rcases h with h | ⟨d, hd', _, hc⟩
    · have : l = [] := by simpa using h
      subst this; simp at hj
    · cases hd'
      have := hc j (by simpa using hj)
      simpa [byteVal] using this
theorem Ext.drew {w : World} : Ext w w.drew := Upd.drew
theorem Ext.drewN {w : World} {k : Nat} : Ext w (w.drewN k) := ⟨rfl, rfl, rfl, Nat.le_refl _, fun _ _ _ => rfl⟩
theorem Ext.grow {w : World} {k : Nat} {os : Array Obj} : Ext w (Sort.grow (w.drewN k) os) := Ext.of_below (Lib.below_grow w.heap.size w (Nat.le_refl _) k os) (Nat.le_refl _)
theorem Ext.bytesWorld {w : World} {e : TypeId} {s : ByteArray} : Ext w (Lib.bytesWorld w e s) := by
  refine ⟨by unfold Lib.bytesWorld World.freeze; split <;> rfl, by unfold Lib.bytesWorld World.freeze; split <;> rfl, by unfold Lib.bytesWorld World.freeze; split <;> rfl, by rw [Lib.bytesWorld_size]; omega, fun i hi _ => Lib.bytesWorld_at_old w e s i hi⟩
/-- the bytes of a string, in a new row -/
theorem conv_bytes {src dst e : TypeId} (hs : P.underlying src = some .string) (hd : P.underlying dst = some (.slice e)) (he : P.underlying e = some (.int .u8))
    {w : World} {s : ByteArray} {K : Value → World → Prop} {X : List PanicEntry → World → Prop}
    (hK : ∀ a c w', Cells w' (some a) (s.data.toList.map byteVal) → w.heap.size ≤ a.block → Ext w w' → K (.slice (some a) s.size c) w') : runV P (convert src dst (.string s)) w K X := by
  refine runV_ok (Lib.run_convert_string_bytes w src dst e s hs hd he) (hK _ _ _ ?_ (Nat.le_refl _) Ext.bytesWorld)
  refine .inr ⟨_, rfl, rfl, fun i hi => ?_⟩
  have hi' : i < s.size := by simpa using hi
  rw [add_pl, Nat.zero_add, Lib.bytesWorld_cell w e s i hi']
  have hi2 : i < s.data.toList.length := by simpa using hi'
  simp only [List.getElem_map, byteVal, List.getD_eq_getElem?_getD, List.getElem?_eq_getElem hi2, Option.getD_some]
end Go.Vc
