/- strings.Builder. -/
import Derived.Test.YtgfbkmclekafbaaGreatDoorQConA
import Derived.Lib.Builder
import Derived.Lib.UnsafeStr
import Derived.Lib.ItoaLen
import Derived.Test.YtgfbkmclekafbaaGreatDoorQPl
set_option linter.unusedVariables false
set_option linter.unusedSimpArgs false
set_option linter.unnecessarySimpa false
set_option maxRecDepth 100000
namespace Go.Proofs.YtgfbkmclekafbaaGreatDoor
open Go Go.Vc

/-- a builder at block b, its row at q, that holds l -/
def BOK (w : World) (b : Nat) (q : Option Addr) (l : List UInt8) : Prop := ∃ p c, w.heap[b]? = some (.cells #[.pointer p, .slice q l.length c] 52 (0, 0)) ∧ (p = none ∨ p = some ⟨b, 0, none⟩) ∧
  Row w 5 1 q l.length c (l.map byteVal) ∧ blkOf q ≠ some b
theorem BOK.upd {S : Nat → Prop} {w w' : World} {b : Nat} {q : Option Addr} {l : List UInt8} (h : BOK w b q l) (hu : Upd S w w') (hb : ¬ S b) (hq : ∀ x, blkOf q = some x → ¬ S x) : BOK w' b q l := by
  obtain ⟨p, c, h1, h2, h3, h4⟩ := h
  exact ⟨p, c, hu.blk h1 hb, h2, h3.upd hu hq, h4⟩
theorem BOK.ext {w w' : World} {b : Nat} {q : Option Addr} {l : List UInt8} (h : BOK w b q l) (hu : Ext w w') : BOK w' b q l := h.upd hu (fun h => h) (fun _ _ h => h)
theorem BOK.lt {w : World} {b : Nat} {q : Option Addr} {l : List UInt8} (h : BOK w b q l) : b < w.heap.size := by
  obtain ⟨p, c, h1, _⟩ := h
  exact blk_lt h1
theorem BOK.qlt {w : World} {b : Nat} {q : Option Addr} {l : List UInt8} (h : BOK w b q l) {x : Nat} (hx : blkOf q = some x) : x < w.heap.size := by
  obtain ⟨p, c, h1, h2, h3, h4⟩ := h
  exact h3.lt hx
theorem BOK.fresh {w : World} {b : Nat} (h : w.heap[b]? = some (.cells #[.pointer none, .slice none 0 0] 52 (0, 0))) : BOK w b none [] :=
  ⟨none, 0, h, .inl rfl, Row.nil, by simp [blkOf]⟩

theorem noEscape_el {p : Value} {w : World} {K : Value → World → Prop} {X : List PanicEntry → World → Prop} (h : K p w) : callX P n_abi_NoEscape [p] w K X := by
  have hr : (callFunc n_abi_NoEscape #[p]).run P w = .ok (.value p) w := by kernel_rfl
  unfold callX
  rw [show ([p] : List Value).toArray = #[p] from rfl, hr]
  exact h

theorem copyCheck_el {b : Nat} {q : Option Addr} {l : List UInt8} {w : World} {K : Value → World → Prop} {X : List PanicEntry → World → Prop} (hB : BOK w b q l)
    (h : ∀ w', BOK w' b q l → Upd (fun i => i = b) w w' → w'.heap.size = w.heap.size → K (.tuple #[]) w') : call P n_strings_Builder_copyCheck [.pointer (some ⟨b, 0, none⟩)] w K X := by
  have hB' := hB
  obtain ⟨p, c, h1, h2, h3, h4⟩ := hB
  refine strings_Builder_copyCheck.call ?_
  unfold strings_Builder_copyCheck.F
  refine ld_blk h1 (v := .pointer p) rfl ?_
  simp only [asP_at]
  rcases h2 with rfl | rfl
  · refine if_t rfl ?_
    have hs2 : (P.info? 52).map (·.size) = some 2 := by kernel_rfl
    obtain ⟨j, hj, hjs⟩ := Option.map_eq_some_iff.1 hs2
    have hsh : w.shape? b = some (52, 2) := by unfold World.shape?; rw [h1]; rfl
    refine runV_ok (Lib.run_to_unsafe (P := P) w ⟨b, 0, none⟩ Go.Proofs.Tryz.underlying50 Go.Proofs.Tryz.underlying100 hj (by rw [hjs]; decide) hsh (by show 0 < 2; decide)) ?_
    refine noEscape_el (X := X) ?_
    have hlies : liesAt P P.depth 52 (2 / P.cellsOf 52) 0 52 1 = true := by kernel_rfl
    refine runV_ok (Lib.run_from_unsafe (P := P) w ⟨b, 0, none⟩ Go.Proofs.Tryz.underlying100 Go.Proofs.Tryz.underlying50 hj hsh hlies) ?_
    refine st1_el h1 (by show 0 < 2; decide) fun w4 hh4 hu4 hsz4 => ?_
    refine h w4 ⟨some ⟨b, 0, none⟩, c, hh4, .inr rfl, h3.upd hu4 (fun x hx hxb => h4 (by rw [hx, hxb])), h4⟩ hu4 hsz4
  · refine if_f rfl ?_
    refine ld_blk h1 (v := .pointer (some ⟨b, 0, none⟩)) rfl ?_
    simp only [asP_at]
    have hj : ∃ j, P.info? 52 = some j := by
      have hs2 : (P.info? 52).isSome = true := by kernel_rfl
      exact Option.isSome_iff_exists.1 hs2
    obtain ⟨j, hj⟩ := hj
    have hr : ∀ (x y : Operand), (do eqGuard .neq 50 x y (.pointer (some ⟨b, 0, none⟩)) (.pointer (some ⟨b, 0, none⟩)); binOp .neq 50 (.pointer (some ⟨b, 0, none⟩)) (.pointer (some ⟨b, 0, none⟩)) : Sem Value).run P w = .ok (.bool false) w := by
      intro x y
      rw [Sem.run_bind]
      have hg : (eqGuard .neq 50 x y (.pointer (some ⟨b, 0, none⟩)) (.pointer (some ⟨b, 0, none⟩))).run P w = .ok () w := by simp [eqGuard]
      rw [hg, Result.andThen_ok]
      exact Lib.run_neq_ptr_same (P := P) w ⟨b, 0, none⟩ Go.Proofs.Tryz.underlying50 hj
    refine runV_ok (hr _ _) ?_
    simp only [asB_at]
    refine if_f rfl (h w hB' (Upd.refl _ _) rfl)

theorem writeString_el {b : Nat} {q : Option Addr} {l : List UInt8} {s : ByteArray} {w : World} {K : Value → World → Prop} {X : List PanicEntry → World → Prop} (hB : BOK w b q l) (hlen : l.length + s.size ≤ 140737488355328)
    (h : ∀ q' w', BOK w' b q' (l ++ s.data.toList) → Upd (fun i => i = b ∨ blkOf q = some i) w w' → (∀ x, blkOf q' = some x → blkOf q = some x ∨ w.heap.size ≤ x) → K (.tuple #[.int .i64 s.size, .nilIface]) w') :
    call P n_strings_Builder_WriteString [.pointer (some ⟨b, 0, none⟩), .string s] w K X := by
  refine strings_Builder_WriteString.call ?_
  unfold strings_Builder_WriteString.F
  refine copyCheck_el hB fun w1 hB1 hu1 hsz1 => ?_
  obtain ⟨p, c, h1, h2, h3, h4⟩ := hB1
  refine ld_add h1 (v := .slice q l.length c) rfl ?_
  obtain ⟨i, hi, hsize, hby, hz⟩ := info_of (P := P) (e := 5) (size := 1) (bytes := 1) (z := .int .u8 0) (by kernel_rfl) (by kernel_rfl)
  refine append_str Go.Proofs.Tryz.underlying39 Go.Proofs.Tryz.underlying9 hi hz hsize hby h3 hlen fun q' c' w3 hrow' hu3 hfr3 => ?_
  refine st_add (hu3.blk h1 h4) (by show 1 < 2; decide) fun w4 hh4 hu4 hsz4 => ?_
  have hq'b : blkOf q' ≠ some b := by
    intro hx
    rcases hfr3 b hx with h | h
    · exact h4 h
    · have := blk_lt h1; omega
  have hl : (l ++ s.data.toList).length = l.length + s.size := by rw [List.length_append, size_len]
  refine h q' w4 ⟨p, c', ?_, h2, ?_, hq'b⟩ (((hu1.mono fun i _ hi => .inl hi).trans (hu3.mono fun i _ hi => .inr hi)).trans (hu4.mono fun i _ hi => .inl hi)) (fun x hx => by rw [← hsz1]; exact hfr3 x hx)
  · rw [hl]; exact hh4
  · rw [hl, List.map_append]
    exact hrow'.upd hu4 (fun x hx hxb => hq'b (by rw [hx, hxb]))

theorem writeByte_el {b : Nat} {q : Option Addr} {l : List UInt8} {x : UInt8} {w : World} {K : Value → World → Prop} {X : List PanicEntry → World → Prop} (hB : BOK w b q l) (hlen : l.length + 1 ≤ 140737488355328)
    (h : ∀ q' w', BOK w' b q' (l ++ [x]) → Upd (fun i => i = b ∨ blkOf q = some i) w w' → (∀ x, blkOf q' = some x → blkOf q = some x ∨ w.heap.size ≤ x) → K .nilIface w') :
    call P n_strings_Builder_WriteByte [.pointer (some ⟨b, 0, none⟩), .int .u8 (x.toNat : Int)] w K X := by
  refine strings_Builder_WriteByte.call ?_
  unfold strings_Builder_WriteByte.F
  refine copyCheck_el hB fun w1 hB1 hu1 hsz1 => ?_
  have hB1' := hB1
  obtain ⟨p, c, h1, h2, h3, h4⟩ := hB1
  refine ld_add h1 (v := .slice q l.length c) rfl ?_
  refine al_el fun k2 w2 hk2 hblk2 hx2 hsz2 => ?_
  obtain ⟨i, hi, hsize, hby, hz⟩ := info_of (P := P) (e := 5) (size := 1) (bytes := 1) (z := .int .u8 0) (by kernel_rfl) (by kernel_rfl)
  have hnews : Cells w2 (some ⟨k2, 0, none⟩) [byteVal x] := .inr ⟨_, rfl, rfl, fun j hj => by
    rw [add_pl]; refine cell_blk hblk2 ?_
    rw [Nat.zero_add, ← Array.getElem?_toList]; exact List.getElem?_eq_getElem hj⟩
  refine append_row (size := 1) (bytes := 1) Go.Proofs.Tryz.underlying39 hi hz hsize hby rfl (by decide) (h3.ext hx2) (m := 1) rfl hnews (by intro u hu; simp only [List.mem_singleton] at hu; rw [hu]; rfl) (by decide) (by unfold maxLen; omega) (by omega) fun q' c' w4 hrow' hu4 hfr4 => ?_
  refine st_add (hu4.blk (hx2.blk h1 (fun h => h)) h4) (by show 1 < 2; decide) fun w5 hh5 hu5 hsz5 => ?_
  have hq'b : blkOf q' ≠ some b := by
    intro hx
    rcases hfr4 b hx with h | h
    · exact h4 h
    · have := blk_lt h1; omega
  have hl : (l ++ [x]).length = l.length + 1 := by simp
  refine h q' w5 ⟨p, c', ?_, h2, ?_, hq'b⟩ ((((hu1.mono fun i _ hi => .inl hi).trans (Ext.to hx2)).trans (hu4.mono fun i _ hi => .inr hi)).trans (hu5.mono fun i _ hi => .inl hi)) (fun x hx => by
    rcases hfr4 x hx with h | h
    · exact .inl h
    · right; omega)
  · rw [hl]; exact hh5
  · rw [hl, List.map_append]
    exact hrow'.upd hu5 (fun x hx hxb => hq'b (by rw [hx, hxb]))

theorem builderLen_el {b : Nat} {q : Option Addr} {l : List UInt8} {w : World} {K : Value → World → Prop} {X : List PanicEntry → World → Prop} (hB : BOK w b q l)
    (h : K (.int .i64 l.length) w) : call P n_strings_Builder_Len [.pointer (some ⟨b, 0, none⟩)] w K X := by
  obtain ⟨p, c, h1, h2, h3, h4⟩ := hB
  refine strings_Builder_Len.call ?_
  unfold strings_Builder_Len.F
  refine ld_add h1 (v := .slice q l.length c) rfl ?_
  exact h
theorem builderString_el {b M : Nat} {q : Option Addr} {l : List UInt8} {w : World} {K : Value → World → Prop} {X : List PanicEntry → World → Prop} (hB : BOK w b q l) (hMb : M ≤ b) (hMq : ∀ x, blkOf q = some x → M ≤ x)
    (h : ∀ w', Upd (fun i => M ≤ i) w w' → K (.string ⟨l.toArray⟩) w') : call P n_strings_Builder_String [.pointer (some ⟨b, 0, none⟩)] w K X := by
  have hlt := hB.lt
  obtain ⟨p, c, h1, h2, h3, h4⟩ := hB
  have hat : Lib.BuilderAt 52 5 M b (.pointer p) (Lib.byteCells l) w := by
    refine ⟨hMb, .slice q l.length c, h1, ?_, ?_⟩
    · rw [Lib.byteCells_length]
      refine ⟨by simp [Lib.byteCells_length], ?_⟩
      rcases h3.2 with ⟨he, hn⟩ | ⟨g, cap, cur, he, _, rest⟩
      · exact .inl ⟨he, hn⟩
      · have hg : M ≤ g := by cases he; exact hMq g rfl
        exact .inr ⟨g, cap, cur, he, hg, rest⟩
    · intro he
      cases q with
      | none => simp [Value.ownBlock] at he
      | some a => simp [Value.ownBlock] at he; exact h4 (by simp [blkOf, he])
  have his : Lib.IsBuilder 52 5 M b (Lib.byteCells l) w := by
    rcases h2 with rfl | rfl
    · exact .inl hat
    · exact .inr hat
  refine call_calls (Tryz.Builder_String_any M b l w his (by omega)) ?_
  rintro e w' ⟨rfl, hb⟩
  exact h w' (Upd.of_below hb)
end Go.Proofs.YtgfbkmclekafbaaGreatDoor

/- write: a step's line. -/
set_option maxRecDepth 100000
namespace Go.Proofs.YtgfbkmclekafbaaGreatDoor
open Go Go.Vc

structure St.wf (t : St) : Prop where
  n0 : -9223372036854775808 ≤ t.node
  n1 : t.node ≤ 9223372036854775807
  m0 : -9223372036854775808 ≤ t.n
  m1 : t.n ≤ 9223372036854775807
  k : t.key < 18446744073709551616
  v : t.val < 18446744073709551616
def argText (t : St) (c : UInt8) : List UInt8 :=
  if c = 110 then Lib.itoa t.node else if c = 107 then Lib.itoa t.n else if c = 117 then Lib.decDigits t.key else if c = 118 then hexText t.val else []
def clearArg (t : St) (c : UInt8) : St :=
  if c = 110 then { t with node := 0 } else if c = 107 then { t with n := 0 } else if c = 117 then { t with key := 0 } else if c = 118 then { t with val := 0 } else t
def argsText : St → List UInt8 → List UInt8
  | _, [] => []
  | t, c :: r => 32 :: argText t c ++ argsText (clearArg t c) r
def argsLeft : St → List UInt8 → St
  | t, [] => t
  | t, c :: r => argsLeft (clearArg t c) r
def lineText (t : St) : List UInt8 := wordAt t.kind.toNat ++ argsText t (askAt t.kind.toNat) ++ [10]
def lineLeft (t : St) : St := argsLeft t (askAt t.kind.toNat)
def St.bad (t : St) : Prop := t.node ≠ 0 ∨ t.n ≠ 0 ∨ t.key ≠ 0 ∨ t.val ≠ 0
instance (t : St) : Decidable t.bad := by unfold St.bad; infer_instance
theorem clearArg_wf {t : St} (h : t.wf) (c : UInt8) : (clearArg t c).wf := by
  obtain ⟨h1, h2, h3, h4, h5, h6⟩ := h
  unfold clearArg
  split
  · exact ⟨by simp, by simp, h3, h4, h5, h6⟩
  split
  · exact ⟨h1, h2, by simp, by simp, h5, h6⟩
  split
  · exact ⟨h1, h2, h3, h4, by simp, h6⟩
  split
  · exact ⟨h1, h2, h3, h4, h5, by simp⟩
  · exact ⟨h1, h2, h3, h4, h5, h6⟩
theorem ask_len (k : Nat) : (askAt k).length ≤ 3 := by unfold askAt; split <;> decide
theorem word_len (k : Nat) : (wordAt k).length ≤ 7 := by unfold wordAt; split <;> decide
theorem dec_len {n : Nat} (h : n < 18446744073709551616) : (Lib.decDigits n).length ≤ 21 := by
  by_cases h1 : 1 ≤ n
  · rw [Lib.decDigits_length]
    have := Lib.numDigits_eq n h1 h
    split at this <;> omega
  · have : n = 0 := by omega
    subst this; rw [Lib.decDigits]; simp
theorem arg_len {t : St} (h : t.wf) (c : UInt8) : (argText t c).length ≤ 21 := by
  unfold argText
  split
  · exact Lib.itoa_length_le _ h.n0 h.n1
  split
  · exact Lib.itoa_length_le _ h.m0 h.m1
  split
  · exact dec_len h.k
  split
  · rw [hexText, hexFill_len]; decide
  · decide

theorem write_el {b : Nat} {q : Option Addr} {l : List UInt8} {t : St} {w : World} {K : Value → World → Prop} {X : List PanicEntry → World → Prop} (hw : Lw w) (hB : BOK w b q l) (hb9 : 9 ≤ b) (hq9 : ∀ x, blkOf q = some x → 9 ≤ x) (hlen : l.length + 200 ≤ 140737488355328) (ht : t.wf)
    (h1 : (t.kind < 1 ∨ 11 < t.kind) → ∀ w', Ext w w' → K (.int .i64 200) w')
    (h2 : 1 ≤ t.kind → t.kind ≤ 11 → ∀ q' w', BOK w' b q' (l ++ lineText t) → Upd (fun i => i = b ∨ blkOf q = some i) w w' → (∀ x, blkOf q' = some x → blkOf q = some x ∨ w.heap.size ≤ x) → K (.int .i64 (if (lineLeft t).bad then 1 else 0)) w') :
    call P n_script_write [.pointer (some ⟨b, 0, none⟩), t.v] w K X := by
  have hblt := hB.lt
  refine script_write.call ?_
  unfold script_write.F
  refine al_el fun k1 w1 hk1 hblk1 hx1 hsz1 => ?_
  have hst1 : w1.heap[k1]? = some (.cells t.cells.toArray 46 (0, 0)) := hblk1
  refine ld_blk hst1 (v := .int .i64 t.kind) rfl ?_
  intro K1 hK1
  have bad : (t.kind < 1 ∨ 11 < t.kind) → K1 [.bool true] w1 := fun hk => hK1 _ _ fun _ => h1 hk w1 hx1
  refine cnd_i (fun hk => bad (.inl (by rw [iLt_t] at hk; exact hk))) (fun hk => ?_)
  rw [iLt_f] at hk
  refine ld_blk hst1 (v := .int .i64 t.kind) rfl ?_
  simp only [asI_at]
  refine hK1 _ _ fun _ => cnd_i (fun hk2 => h1 (.inr (by rw [iGt_t] at hk2; exact hk2)) w1 hx1) (fun hk2 => ?_)
  rw [iGt_f] at hk2
  obtain ⟨k, hkk⟩ : ∃ k : Nat, t.kind = (k : Int) := ⟨t.kind.toNat, by omega⟩
  intro K2 hK2
  have fin : ∀ kk w', Ext w1 w' → w1.heap.size ≤ kk → w'.heap[kk]? = some (.cells #[wordsV k, asksV k] 82 (0, 0)) → K2 [.pointer (some ⟨kk, 0, none⟩)] w' := by
    intro kk w3 hx3 hkk1 hpair
    refine hK2 _ _ fun _ => ⟨by unfold inB; decide, ?_⟩
    rintro d rfl
    rw [show Int.toNat 0 = 0 from rfl, zero_add_pl]
    refine ld_blk hpair (v := .string (bs (wordAt k))) rfl ?_
    have hB3 := hB.ext (hx1.trans hx3)
    have hwl := word_len k
    have hws : (bs (wordAt k)).size = (wordAt k).length := by rw [size_len]; rfl
    rw [asS_at]
    refine writeString_el hB3 (by rw [hws]; omega) fun q4 w4 hB4 hu4 hfr4 => ?_
    have hx13 : Ext w w3 := hx1.trans hx3
    have hkb : k1 ≠ b := by omega
    have hkq : ∀ x, blkOf q = some x → x < w.heap.size := fun x hx => hB.qlt hx
    have hst3 := hx3.blk hst1 (fun h => h)
    have hst4 := hu4.blk hst3 (by rintro (h | h); exact hkb h; have := hkq _ h; omega)
    have hpair4 := hu4.blk hpair (by rintro (h | h); omega; have := hkq _ h; omega)
    refine ⟨by unfold inB; decide, ?_⟩
    rintro d rfl
    rw [show Int.toNat 1 = 1 from rfl, zero_add_pl]
    refine ld_blk hpair4 (v := .string (bs (askAt k))) rfl ?_
    rw [asS_at]
    refine range_str (P := P) Go.Proofs.Tryz.underlying9 fun k4 w5 hk4 hit5 hx5 hsz5 => ?_
    have hask : (bs (askAt k)).size = (askAt k).length := by rw [size_len]; rfl
    have h14 : k1 ≠ k4 := by have := hx3.size; have := hu4.size; omega
    intro L hL
    have hal := ask_len k
    suffices hh : ∀ (r pre : List UInt8) (t' : St) (q' : Option Addr) (l' : List UInt8) (w6 : World), pre ++ r = askAt k → l ++ wordAt k ++ argsText t (askAt k) = l' ++ argsText t' r → argsLeft t (askAt k) = argsLeft t' r → t'.wf →
        l'.length ≤ l.length + 7 + 22 * pre.length → BOK w6 b q' l' → Upd (fun i => i = b ∨ blkOf q = some i) w w6 → (∀ x, blkOf q' = some x → blkOf q = some x ∨ w.heap.size ≤ x) → (∀ x, blkOf q' = some x → x ≠ k1 ∧ x ≠ k4) →
        w6.heap[k1]? = some (.cells t'.cells.toArray 46 (0, 0)) → w6.heap[k4]? = some (.stringIter (bs (askAt k)) pre.length) → L [] w6 from by
      have hu34 : Upd (fun i => i = b ∨ blkOf q = some i) w w4 := (Ext.to hx13).trans hu4
      refine hh _ [] t q4 (l ++ wordAt k) w5 rfl rfl rfl ht (by rw [List.length_append]; simp; omega) (hB4.ext hx5) (hu34.then hx5) ?_ ?_ (hx5.blk hst4 (fun h => h)) hit5
      · intro x hx
        rcases hfr4 x hx with h | h
        · exact .inl h
        · exact .inr (Nat.le_trans hx13.size h)
      · intro x hx
        have := hB4.qlt hx
        rcases hfr4 x hx with h | h
        · have := hkq x h; omega
        · have := hx3.size; omega
    intro r
    induction r with
    | nil =>
      intro pre t' q' l' w6 hpre htext hleft ht' hl' hB6 hu6 hfr6 hap6 hst6 hit6
      rw [List.append_nil] at hpre
      refine hL _ fun _ => ?_
      refine next_end hit6 (by rw [hask, hpre]; omega) ?_
      have hpl : pre.length ≤ 3 := by rw [hpre]; exact hal
      refine writeByte_el (x := 10) hB6 (by omega) fun q7 w7 hB7 hu7 hfr7 => ?_
      have hst7 := hu7.blk hst6 (by rintro (h | h); exact hkb h; exact (hap6 _ h).1 rfl)
      refine ld_blk hst7 (v := .int .i64 t'.node) rfl ?_
      have hend : K (.int .i64 (if t'.bad then 1 else 0)) w7 := by
        have hll : lineLeft t = t' := by unfold lineLeft; rw [hkk, Int.toNat_natCast, hleft]; rfl
        have hlt : l ++ lineText t = l' ++ [10] := by
          unfold lineText; rw [hkk, Int.toNat_natCast, ← List.append_assoc, ← List.append_assoc, htext]; simp [argsText]
        rw [← hll]
        refine h2 (by omega) (by omega) q7 w7 (by rw [hlt]; exact hB7) (hu6.on hu7 ?_) ?_
        · rintro i (h | h)
          · exact .inl (.inl h)
          · rcases hfr6 i h with h | h
            · exact .inl (.inr h)
            · exact .inr h
        · intro x hx
          rcases hfr7 x hx with h | h
          · exact hfr6 x h
          · exact .inr (Nat.le_trans hu6.size h)
      intro K3 hK3
      have s3 : ∀ b2 : Bool, (b2 = true ↔ (t'.node ≠ 0 ∨ t'.n ≠ 0)) → K3 [.bool b2] w7 := by
        intro b2 hb2
        refine hK3 _ _ fun _ => ?_
        intro K4 hK4
        have s4 : ∀ b3 : Bool, (b3 = true ↔ (t'.node ≠ 0 ∨ t'.n ≠ 0 ∨ t'.key ≠ 0)) → K4 [.bool b3] w7 := by
          intro b3 hb3
          refine hK4 _ _ fun _ => ?_
          intro K5 hK5
          have s5 : ∀ b4 : Bool, (b4 = true ↔ t'.bad) → K5 [.bool b4] w7 := by
            intro b4 hb4
            refine hK5 _ _ fun _ => cnd_i (fun h => ?_) (fun h => ?_)
            · rw [if_pos (hb4.1 h)] at hend; exact hend
            · rw [if_neg (fun hh => by rw [hb4.2 hh] at h; cases h)] at hend; exact hend
          refine cnd_i (fun h => s5 true ?_) (fun h => ?_)
          · refine ⟨fun _ => ?_, fun _ => rfl⟩
            rcases hb3.1 h with h | h | h
            · exact .inl h
            · exact .inr (.inl h)
            · exact .inr (.inr (.inl h))
          · refine ld_blk hst7 (v := .float .f64 t'.val) rfl ?_
            refine bits_el (X := X) (s5 _ ?_)
            rw [iNe_t]
            refine ⟨fun hv => .inr (.inr (.inr (by omega))), fun hbd => ?_⟩
            rcases hbd with h' | h' | h' | h'
            · rw [hb3.2 (.inl h')] at h; cases h
            · rw [hb3.2 (.inr (.inl h'))] at h; cases h
            · rw [hb3.2 (.inr (.inr h'))] at h; cases h
            · omega
        refine cnd_i (fun h => s4 true ?_) (fun h => ?_)
        · refine ⟨fun _ => ?_, fun _ => rfl⟩
          rcases hb2.1 h with h | h
          · exact .inl h
          · exact .inr (.inl h)
        · refine ld_blk hst7 (v := .int .u64 t'.key) rfl ?_
          refine s4 _ ?_
          rw [iNe_t]
          refine ⟨fun hv => .inr (.inr (by omega)), fun hbd => ?_⟩
          rcases hbd with h' | h' | h'
          · rw [hb2.2 (.inl h')] at h; cases h
          · rw [hb2.2 (.inr h')] at h; cases h
          · omega
      refine cnd_i (fun h => s3 true ?_) (fun h => ?_)
      · rw [iNe_t] at h
        exact ⟨fun _ => .inl h, fun _ => rfl⟩
      · rw [iNe_f] at h
        refine ld_blk hst7 (v := .int .i64 t'.n) rfl ?_
        refine s3 _ ?_
        rw [iNe_t]
        refine ⟨fun hv => .inr hv, fun hbd => ?_⟩
        rcases hbd with h' | h'
        · exact absurd h h'
        · exact h'
    | cons c r ihr =>
      intro pre t' q' l' w6 hpre htext hleft ht' hl' hB6 hu6 hfr6 hap6 hst6 hit6
      have hc : (bs (askAt k)).data.toList[pre.length]? = some c := by
        show (askAt k)[pre.length]? = some c
        rw [← hpre]; simp
      have hmem : c ∈ askAt k := by rw [← hpre]; simp
      have hcc := ask_letters k c hmem
      have hpl : pre.length + (r.length + 1) = (askAt k).length := by rw [← hpre]; simp
      refine hL _ fun _ => ?_
      refine next_letter hit6 hc (by rcases hcc with rfl | rfl | rfl | rfl <;> decide) fun w7 hit7 hu7 hsz7 => ?_
      have hB7 : BOK w7 b q' l' := hB6.upd hu7 (by have := hu4.size; have := hx3.size; omega) (fun x hx => (hap6 x hx).2)
      have hst7 := hu7.blk hst6 h14
      simp only [asI_at]
      refine writeByte_el (x := 32) hB7 (by omega) fun q8 w8 hB8 hu8 hfr8 => ?_
      have hst8 := hu8.blk hst7 (by rintro (h | h); exact hkb h; exact (hap6 _ h).1 rfl)
      have hit8 := hu8.blk hit7 (by rintro (h | h); have := hu4.size; have := hx3.size; omega; exact (hap6 _ h).2 rfl)
      have hk4lt := blk_lt hit7
      have hk1lt := blk_lt hst7
      have hap8 : ∀ x, blkOf q8 = some x → x ≠ k1 ∧ x ≠ k4 := fun x hx => by
        rcases hfr8 x hx with h | h
        · exact hap6 x h
        · omega
      have hfr8' : ∀ x, blkOf q8 = some x → blkOf q = some x ∨ w.heap.size ≤ x := fun x hx => by
        rcases hfr8 x hx with h | h
        · exact hfr6 x h
        · right; have := hu6.size; omega
      have hu67 : Upd (fun i => i = b ∨ blkOf q = some i) w w7 := hu6.on hu7 (fun i hi => .inr (by have := hu4.size; have := hx3.size; omega))
      have hu78 : Upd (fun i => i = b ∨ blkOf q = some i) w w8 := hu67.on hu8 (by
        rintro i (h | h)
        · exact .inl (.inl h)
        · rcases hfr6 i h with h | h
          · exact .inl (.inr h)
          · exact .inr h)
      have hlw8 : Lw w8 := hw.upd hu78 (by rintro i hi (h | h); omega; have := hq9 _ h; omega)
      have hargl := arg_len ht' c
      have on : ∀ (o : Nat) (v0 : Value) (s : ByteArray) (w9 : World), Ext w8 w9 → s.data.toList = argText t' c → (t'.cells.toArray.setIfInBounds o v0) = (clearArg t' c).cells.toArray → o < 5 →
          call P n_strings_Builder_WriteString [.pointer (some ⟨b, 0, none⟩), .string s] w9 (fun v w10 => tuN 2 v (fun x y => show Prop from asI .i64 x fun n6 => st w10 ⟨k1, o, none⟩ [v0] fun w11 => L [] w11)) X := by
        intro o v0 s w9 hx9 hs hcells ho
        have hss : s.size = (argText t' c).length := by rw [size_len, hs]
        refine writeString_el (hB8.ext hx9) (by rw [hss, List.length_append, List.length_singleton]; omega) fun q10 w10 hB10 hu10 hfr10 => ?_
        have hst10 := hu10.blk (hx9.blk hst8 (fun h => h)) (by rintro (h | h); exact hkb h; exact (hap8 _ h).1 rfl)
        have hit10 := hu10.blk (hx9.blk hit8 (fun h => h)) (by rintro (h | h); have := hu4.size; have := hx3.size; omega; exact (hap8 _ h).2 rfl)
        refine st_cell hst10 (by show o < 5; exact ho) fun w11 h11 hu11 hsz11 => ?_
        rw [hcells] at h11
        have hu810 : Upd (fun i => i = b ∨ blkOf q = some i) w w10 := (hu78.then hx9).on hu10 (by
          rintro i (h | h)
          · exact .inl (.inl h)
          · rcases hfr8' i h with h | h
            · exact .inl (.inr h)
            · exact .inr h)
        have hap10 : ∀ x, blkOf q10 = some x → x ≠ k1 ∧ x ≠ k4 := fun x hx => by
          rcases hfr10 x hx with h | h
          · exact hap8 x h
          · have := hx9.size; have := hu8.size; omega
        have hB11 : BOK w11 b q10 (l' ++ [32] ++ argText t' c) := by
          rw [← hs]; exact hB10.upd hu11 (fun h => hkb h.symm) (fun x hx => (hap10 x hx).1)
        refine ihr (pre ++ [c]) (clearArg t' c) q10 _ w11 (by rw [List.append_assoc]; exact hpre) ?_ hleft (clearArg_wf ht' c) ?_ hB11 (hu810.on hu11 (fun i hi => .inr (by omega))) ?_ hap10 h11 ?_
        · rw [htext]; simp [argsText]
        · simp only [List.length_append, List.length_singleton]; omega
        · intro x hx
          rcases hfr10 x hx with h | h
          · exact hfr8' x h
          · right; have := hx9.size; have := hu78.size; omega
        · rw [List.length_append, List.length_singleton]
          exact hu11.blk hit10 (fun h => h14 h.symm)
      rcases hcc with rfl | rfl | rfl | rfl
      · refine if_t rfl (ld_blk hst8 (v := .int .i64 t'.node) rfl (itoa_el hlw8 ht'.n0 ht'.n1 fun w9 hx9 => ?_))
        exact on 1 _ _ w9 hx9 rfl rfl (by decide)
      · refine if_f rfl (if_t rfl (ld_blk hst8 (v := .int .i64 t'.n) rfl (itoa_el hlw8 ht'.m0 ht'.m1 fun w9 hx9 => ?_)))
        exact on 2 _ _ w9 hx9 rfl rfl (by decide)
      · refine if_f rfl (if_f rfl (if_t rfl (ld_blk hst8 (v := .int .u64 t'.key) rfl (formatUint_el hlw8 ht'.k fun w9 hx9 => ?_))))
        exact on 3 _ _ w9 hx9 rfl rfl (by decide)
      · refine if_f rfl (if_f rfl (if_f rfl (if_t rfl (ld_blk hst8 (v := .float .f64 t'.val) rfl (hex_el hlw8 ht'.v fun w9 hx9 => ?_)))))
        exact on 4 _ _ w9 hx9 rfl rfl (by decide)
  have hwc : Array.extract wordsA.toArray (scale (Int.toNat t.kind) 2) (scale (Int.toNat t.kind) 2 + 2) = #[wordsV k, asksV k] := by
    rw [hkk, Int.toNat_natCast, scale_eq]; exact word_cases k (by omega)
  have hin : inB t.kind 12 := by unfold inB; omega
  have pair : ∀ (kk : Nat) (w2 : World) (T : TypeId), Ext w1 w2 → w1.heap.size ≤ kk → w2.heap[kk]? = some (.cells #[.string (bs []), .string (bs [])] 82 (0, 0)) →
      st w2 ⟨kk, 0, none⟩ [wordsV k, asksV k] fun w3 => K2 [.pointer (some ⟨kk, 0, none⟩)] w3 := by
    intro kk w2 T hx2 hkk2 hblk
    refine st_el hblk (Nat.le_refl _) fun w3 h3 hu3 hsz3 => ?_
    exact fin kk w3 (Ext.upd hx2 hu3 (fun i hi => by rw [hi]; exact hkk2)) hkk2 h3
  rintro w26 hw26
  have hx26 : Ext w1 w26 := by rw [hw26]; exact Ext.drew
  have hc26 := cell_blk (hx26.blk hst1 (fun h => h)) (v := .int .i64 t.kind) (o := 0) rfl
  refine ld_cell hc26 ?_
  refine ⟨words_el fun w27 hx27 => ⟨hx27.cell hc26 (fun h => h), ⟨hin, ?_⟩, ?_⟩, ?_⟩
  · refine agN_of hwc ?_
    refine al_el fun k3 w28 hk3 hblk3 hx28 hsz28 => ⟨Upd.cell (hx27.trans hx28) hc26 (fun h => h), ?_⟩
    exact pair k3 w28 0 ((hx26.trans hx27).trans hx28) (by rw [hk3]; exact (hx26.trans hx27).size) hblk3
  · refine al_el fun k4 w30 hk4 hblk4 hx30 hsz30 => ⟨Upd.cell (hx27.trans hx30) hc26 (fun h => h), hin, ?_⟩
    refine agN_of hwc ?_
    exact pair k4 w30 0 ((hx26.trans hx27).trans hx30) (by rw [hk4]; exact (hx26.trans hx27).size) hblk4
  · refine al_el fun k5 w32 hk5 hblk5 hx32 hsz32 => ⟨hx32.cell hc26 (fun h => h), ?_⟩
    refine words_el fun w33 hx33 => ⟨Upd.cell (hx32.trans hx33) hc26 (fun h => h), hin, ?_⟩
    refine agN_of hwc ?_
    exact pair k5 w33 0 ((hx26.trans hx32).trans hx33) (by rw [hk5]; exact hx26.size) (hx33.blk hblk5 (fun h => h))
end Go.Proofs.YtgfbkmclekafbaaGreatDoor

/- Print. -/
set_option maxRecDepth 100000
namespace Go.Proofs.YtgfbkmclekafbaaGreatDoor
open Go Go.Vc

structure OpR.wf (o : OpR) : Prop where
  k0 : -9223372036854775808 ≤ o.kind
  k1 : o.kind ≤ 9223372036854775807
  n0 : -9223372036854775808 ≤ o.n
  n1 : o.n ≤ 9223372036854775807
  x : o.x < 18446744073709551616
def PlanR.nums (p : PlanR) : List Int := [p.p0, p.p1, p.p2, p.p4, p.p5, p.p6, p.p7]
structure PlanR.wf (p : PlanR) : Prop where
  nums : ∀ n ∈ p.nums, -9223372036854775808 ≤ n ∧ n ≤ 9223372036854775807
  ops : ∀ o ∈ p.ops, o.wf
def numsText (l : List Int) : List UInt8 := (l.map fun n => 32 :: Lib.itoa n).flatten
def planText (p : PlanR) : List UInt8 := planWord ++ numsText p.nums ++ [10]
def opText (o : OpR) : List UInt8 := [111, 112, 32] ++ Lib.itoa o.kind ++ [32] ++ Lib.itoa o.n ++ [32] ++ hexText o.x ++ [10]
def opsText (acc : List UInt8) : List OpR → List UInt8
  | [] => acc
  | o :: r => if 262144 < acc.length then acc else opsText (acc ++ opText o) r
def stepsText (acc : List UInt8) : List St → Except Int (List UInt8)
  | [] => .ok acc
  | t :: r => if t.kind < 1 ∨ 11 < t.kind then .error 200 else if (lineLeft t).bad then .error 1 else stepsText (acc ++ lineText t) r
def printSpec (p : PlanR) (steps : List St) : Except Int (List UInt8) :=
  if 4096 < steps.length then .error 212 else match stepsText (opsText (planText p) p.ops) steps with
    | .error e => .error e
    | .ok l => if 262144 < l.length then .error 6 else .ok l

theorem numsText_len : ∀ (l : List Int), (∀ n ∈ l, -9223372036854775808 ≤ n ∧ n ≤ 9223372036854775807) → (numsText l).length ≤ 22 * l.length
  | [], _ => by simp [numsText]
  | n :: l, h => by
    have h1 := Lib.itoa_length_le n (h n (by simp)).1 (h n (by simp)).2
    have h2 := numsText_len l (fun m hm => h m (by simp [hm]))
    simp only [numsText, List.map_cons, List.flatten_cons, List.length_append, List.length_cons] at h2 ⊢
    omega
theorem opText_len {o : OpR} (h : o.wf) : (opText o).length ≤ 100 := by
  have h1 := Lib.itoa_length_le _ h.k0 h.k1
  have h2 := Lib.itoa_length_le _ h.n0 h.n1
  have h3 : (hexText o.x).length = 16 := hexFill_len 16 o.x
  simp only [opText, List.length_append, List.length_cons, List.length_nil]
  omega
theorem opsText_len : ∀ (l : List OpR) (acc : List UInt8), (∀ o ∈ l, o.wf) → acc.length ≤ 262244 → (opsText acc l).length ≤ 262244
  | [], acc, _, h => h
  | o :: r, acc, hw, h => by
    unfold opsText
    split
    · exact h
    · have := opText_len (hw o (by simp))
      exact opsText_len r _ (fun x hx => hw x (by simp [hx])) (by rw [List.length_append]; omega)
theorem argsText_len : ∀ (l : List UInt8) {t : St}, t.wf → (argsText t l).length ≤ 22 * l.length
  | [], t, _ => by simp [argsText]
  | c :: r, t, h => by
    have h1 := arg_len h c
    have h2 := argsText_len r (clearArg_wf h c)
    simp only [argsText, List.length_cons, List.length_append] at h2 ⊢
    omega
theorem lineText_len {t : St} (h : t.wf) : (lineText t).length ≤ 100 := by
  have h1 := word_len t.kind.toNat
  have h2 := argsText_len (askAt t.kind.toNat) h
  have h3 := ask_len t.kind.toNat
  simp only [lineText, List.length_append, List.length_cons, List.length_nil]
  omega
theorem stepCells_len (t : St) : t.cells.length = 5 := rfl
theorem opCells_len (t : OpR) : t.cells.length = 3 := rfl

/-- the state of a printing -/
structure PI (w : World) (N k1 k2 k3 : Nat) (pc : List Value) (nums : List Int) (w' : World) (q : Option Addr) (l : List UInt8) : Prop where
  o1 : w.heap.size ≤ k1
  o2 : k1 < k2
  o3 : k2 < N
  o4 : N ≤ k3
  bok : BOK w' k2 q l
  ext : Ext w w'
  lo : ∀ x, blkOf q = some x → N ≤ x ∧ x ≠ k3
  pl : w'.heap[k1]? = some (.cells pc.toArray 24 (0, 0))
  ar : w'.heap[k3]? = some (.cells (nums.map (Value.int .i64)).toArray 3 (0, 0))
theorem PI.go {w : World} {N k1 k2 k3 : Nat} {pc : List Value} {nums : List Int} {w' w'' : World} {q : Option Addr} {l : List UInt8} (h : PI w N k1 k2 k3 pc nums w' q l) (hx : Ext w' w'') : PI w N k1 k2 k3 pc nums w'' q l :=
  ⟨h.o1, h.o2, h.o3, h.o4, h.bok.ext hx, h.ext.trans hx, h.lo, hx.blk h.pl (fun h => h), hx.blk h.ar (fun h => h)⟩
theorem PI.wr {w : World} {N k1 k2 k3 : Nat} {pc : List Value} {nums : List Int} {w' w'' : World} {q q' : Option Addr} {l l' : List UInt8} (h : PI w N k1 k2 k3 pc nums w' q l) (hB : BOK w'' k2 q' l') (hu : Upd (fun i => i = k2 ∨ blkOf q = some i) w' w'') (hfr : ∀ x, blkOf q' = some x → blkOf q = some x ∨ w'.heap.size ≤ x) : PI w N k1 k2 k3 pc nums w'' q' l' := by
  have o1 := h.o1
  have o2 := h.o2
  have o3 := h.o3
  have o4 := h.o4
  have hk3 := blk_lt h.ar
  refine ⟨o1, o2, o3, o4, hB, Ext.upd h.ext hu ?_, ?_, hu.blk h.pl ?_, hu.blk h.ar ?_⟩
  · rintro i (hi | hi)
    · omega
    · have := (h.lo i hi).1; omega
  · intro x hx
    rcases hfr x hx with h' | h'
    · exact h.lo x h'
    · omega
  · rintro (hi | hi)
    · omega
    · have := (h.lo _ hi).1; omega
  · rintro (hi | hi)
    · omega
    · exact (h.lo _ hi).2 rfl

/-- the answer as values -/
def printV : Except Int (List UInt8) → Value
  | .ok l => .tuple #[.string ⟨l.toArray⟩, .int .i64 0]
  | .error e => .tuple #[.string (bs []), .int .i64 e]

theorem print_el {p : PlanR} {oq : Option Addr} {ol oc : Nat} {steps : List St} {sq : Option Addr} {sl sc : Nat} {w : World} {K : Value → World → Prop} {X : List PanicEntry → World → Prop} (hw : Lw w)
    (hp : p.wf) (ho : Cells w oq (opsCells p.ops)) (hol : ol = p.ops.length) (hs : Cells w sq (stepsCells steps)) (hsl : sl = steps.length) (hst : ∀ t ∈ steps, t.wf) (hob : p.ops.length ≤ 9223372036854775807) (hsb : steps.length ≤ 9223372036854775807)
    (h : ∀ w', Ext w w' → K (printV (printSpec p steps)) w') :
    call P n_script_Print [.agg (p.cells oq ol oc).toArray, .slice sq sl sc] w K X := by
  refine script_Print.call ?_
  unfold script_Print.F
  refine al_el fun k1 w1 hk1 hblk1 hx1 hsz1 => ?_
  have hpl1 : w1.heap[k1]? = some (.cells (p.cells oq ol oc).toArray 24 (0, 0)) := hblk1
  refine cnd_i (fun hg => ?_) (fun hg => ?_)
  · rw [iGt_t, lenN_el] at hg
    have := h w1 hx1
    unfold printSpec at this
    rw [if_pos (by omega)] at this
    exact this
  rw [iGt_f, lenN_el] at hg
  refine al_el fun k2 w3 hk2 hblk2 hx3 hsz3 => ?_
  have hB3 := BOK.fresh hblk2
  refine writeString_el hB3 (by decide) fun q4 w4 hB4 hu4 hfr4 => ?_
  have hx13 := hx1.trans hx3
  have hpl4 := hu4.blk (hx3.blk hpl1 (fun h => h)) (by rintro (h | h); omega; simp [blkOf] at h)
  have hx4 : Ext w w4 := Ext.upd hx13 hu4 (by rintro i (h | h); omega; simp [blkOf] at h)
  iterate 7 refine ld_blk hpl4 rfl ?_
  refine al_el fun k3 w5 hk3 hblk3 hx5 hsz5 => ?_
  have hI5 : PI w w3.heap.size k1 k2 k3 (p.cells oq ol oc) p.nums w5 q4 planWord := by
    refine ⟨by omega, by omega, by omega, by have := hu4.size; omega, hB4.ext hx5, hx4.trans hx5, fun x hx => ?_, hx5.blk hpl4 (fun h => h), hblk3⟩
    have hlt := hB4.qlt hx
    rcases hfr4 x hx with h' | h'
    · simp [blkOf] at h'
    · exact ⟨h', by omega⟩
  obtain ⟨N, hN⟩ : ∃ N, N = w3.heap.size := ⟨_, rfl⟩
  rw [← hN] at hI5
  have hwsz := hw.size
  have lw : ∀ {w' : World} {q' : Option Addr} {l' : List UInt8}, PI w N k1 k2 k3 (p.cells oq ol oc) p.nums w' q' l' → Lw w' := fun hI => hw.ext hI.ext
  intro L1 hL1
  -- the steps
  have steps2 : ∀ (q' : Option Addr) (l' : List UInt8) (w' : World), PI w N k1 k2 k3 (p.cells oq ol oc) p.nums w' q' l' → True := fun _ _ _ _ => trivial
  suffices hh : ∀ (rest : List Int) (i : Nat) (q' : Option Addr) (l' : List UInt8) (w7 : World), i + rest.length = 7 → p.nums.drop i = rest → planWord ++ numsText p.nums = l' ++ numsText rest → l'.length ≤ 4 + 22 * i →
      PI w N k1 k2 k3 (p.cells oq ol oc) p.nums w7 q' l' → L1 [.int .i64 (i : Int)] w7 from hh p.nums 0 q4 planWord w5 rfl rfl rfl (by decide) hI5
  intro rest
  induction rest with
  | nil =>
    intro i q' l' w7 hi hdrop htext hl' hI
    simp only [List.length_nil] at hi
    refine hL1 _ _ fun _ => if_f (by rw [iLt_f, lenN_el]; omega) ?_
    refine writeByte_el (x := 10) hI.bok (by omega) fun q8 w8 hB8 hu8 hfr8 => ?_
    have hI8 := hI.wr hB8 hu8 hfr8
    have hl8 : l' ++ [10] = planText p := by
      have : l' = planWord ++ numsText p.nums := by rw [htext]; simp [numsText]
      rw [this]; rfl
    rw [hl8] at hI8
    have hpt : (planText p).length ≤ 262244 := by rw [← hl8, List.length_append, List.length_singleton]; omega
    intro K1 hK1
    -- behind the pipeline's lines
    have behind : ∀ (q' : Option Addr) (w' : World), PI w N k1 k2 k3 (p.cells oq ol oc) p.nums w' q' (opsText (planText p) p.ops) → K1 [] w' := by
      intro q9 w9 hI9
      have hol9 := opsText_len p.ops (planText p) hp.ops hpt
      refine hK1 _ fun _ => ?_
      intro L2 hL2
      suffices hh : ∀ (rest : List St) (i : Nat) (q' : Option Addr) (l' : List UInt8) (w' : World), i + rest.length = steps.length → steps.drop i = rest → stepsText (opsText (planText p) p.ops) steps = stepsText l' rest → l'.length ≤ 262244 + 100 * i →
          PI w N k1 k2 k3 (p.cells oq ol oc) p.nums w' q' l' → L2 [.int .i64 (i : Int)] w' from hh steps 0 q9 _ w9 (by omega) rfl rfl (by omega) hI9
      intro rest
      induction rest with
      | nil =>
        intro i q' l' w' hi hdrop htext hl' hI
        simp only [List.length_nil] at hi
        refine hL2 _ _ fun _ => if_f (by rw [iLt_f, lenN_el]; omega) ?_
        refine builderLen_el hI.bok ?_
        have hspec : printSpec p steps = if 262144 < l'.length then .error 6 else .ok l' := by
          unfold printSpec; rw [if_neg (by omega), htext]; rfl
        refine cnd_i (fun hgt => ?_) (fun hgt => ?_)
        · rw [iGt_t] at hgt
          have := h w' hI.ext
          rw [hspec, if_pos (by omega)] at this
          exact this
        · rw [iGt_f] at hgt
          have o1 := hI.o1
          have o2 := hI.o2
          have o3 := hI.o3
          refine builderString_el (M := w.heap.size) hI.bok (by omega) (fun x hx => by have := (hI.lo x hx).1; omega) fun w'' hu'' => ?_
          have := h w'' (Ext.upd hI.ext hu'' (fun i hi => hi))
          rw [hspec, if_neg (by omega)] at this
          exact this
      | cons t rest ih =>
        intro i q' l' w' hi hdrop htext hl' hI
        have hti : steps[i]? = some t := by
          have : (steps.drop i)[0]? = some t := by rw [hdrop]; rfl
          simpa using this
        have htw := hst t (List.mem_of_getElem? hti)
        simp only [List.length_cons] at hi
        refine hL2 _ _ fun _ => if_t (by rw [iLt_t, lenN_el]; omega) ⟨by unfold inB; omega, ?_⟩
        obtain ⟨d, hd, hcell⟩ := flat_cells (f := St.cells) (size := 5) (by decide) stepCells_len (hs.ext hI.ext) hti
        subst hd
        rintro d' rfl
        rw [scale_eq, Int.toNat_natCast]
        refine ld_cell (hcell 0 (by decide) _ rfl) ?_
        refine ld_cell (hcell 1 (by decide) _ rfl) ?_
        refine ld_cell (hcell 2 (by decide) _ rfl) ?_
        refine ld_cell (hcell 3 (by decide) _ rfl) ?_
        refine ld_cell (hcell 4 (by decide) _ rfl) ?_
        refine al_el fun k4 w14 hk4 hblk4 hx14 hsz14 => ?_
        refine st_el hblk4 (Nat.le_refl _) fun w15 h15 hu15 hsz15 => ?_
        have hb15 : w15.heap[k4]? = some (.cells t.cells.toArray 46 (0, 0)) := h15
        iterate 5 refine ld_blk hb15 rfl ?_
        have hI15 := hI.go (Ext.upd hx14 hu15 (fun i hi => by rw [hi, hk4]; exact Nat.le_refl _))
        have o1 := hI.o1
        have o2 := hI.o2
        have o3 := hI.o3
        refine write_el (lw hI15) hI15.bok (by omega) (fun x hx => by have := (hI15.lo x hx).1; omega) (by omega) htw (fun hbad w16 hx16 => ?_) (fun hk1' hk2' q16 w16 hB16 hu16 hfr16 => ?_)
        · simp only [asI_at]
          refine if_t (by decide) ?_
          have := h w16 (hI15.ext.trans hx16)
          have hspec : printSpec p steps = .error 200 := by
            unfold printSpec; rw [if_neg (by omega), htext]; unfold stepsText; rw [if_pos hbad]
          rw [hspec] at this; exact this
        · have hI16 := hI15.wr hB16 hu16 hfr16
          have hnk : ¬ (t.kind < 1 ∨ 11 < t.kind) := by omega
          simp only [asI_at]
          by_cases hb : (lineLeft t).bad
          · rw [if_pos hb]
            refine if_t (by decide) ?_
            have := h w16 hI16.ext
            have hspec : printSpec p steps = .error 1 := by
              unfold printSpec; rw [if_neg (by omega), htext]; unfold stepsText; rw [if_neg hnk, if_pos hb]
            rw [hspec] at this; exact this
          · rw [if_neg hb]
            refine if_f (by decide) ?_
            have hnext : iAdd .i64 (i : Int) 1 = ((i + 1 : Nat) : Int) := by rw [iAdd_i64 (by omega) (by omega)]; omega
            rw [hnext]
            have hll := lineText_len htw
            refine ih (i + 1) q16 _ w16 (by omega) (by rw [← List.drop_drop, hdrop]; rfl) ?_ (by rw [List.length_append]; omega) hI16
            rw [htext]; conv => lhs; unfold stepsText
            rw [if_neg hnk, if_neg hb]
    refine ld_blk hI8.pl (v := .slice oq ol oc) rfl ?_
    intro L3 hL3
    suffices hh : ∀ (rest : List OpR) (i : Nat) (q' : Option Addr) (l' : List UInt8) (w' : World), i + rest.length = p.ops.length → p.ops.drop i = rest → opsText (planText p) p.ops = opsText l' rest → l'.length ≤ 262244 →
        PI w N k1 k2 k3 (p.cells oq ol oc) p.nums w' q' l' → L3 [.int .i64 (i : Int)] w' from hh p.ops 0 q8 _ w8 (by omega) rfl rfl hpt hI8
    intro rest
    induction rest with
    | nil =>
      intro i q' l' w' hi hdrop htext hl' hI
      simp only [List.length_nil] at hi
      refine hL3 _ _ fun _ => if_f (by rw [iLt_f, lenN_el]; omega) ?_
      refine behind q' w' ?_
      rw [htext]; exact hI
    | cons o rest ih =>
      intro i q' l' w' hi hdrop htext hl' hI
      have hoi : p.ops[i]? = some o := by
        have : (p.ops.drop i)[0]? = some o := by rw [hdrop]; rfl
        simpa using this
      have how := hp.ops o (List.mem_of_getElem? hoi)
      simp only [List.length_cons] at hi
      refine hL3 _ _ fun _ => if_t (by rw [iLt_t, lenN_el]; omega) ⟨by unfold inB; omega, ?_⟩
      obtain ⟨d, hd, hcell⟩ := flat_cells (f := OpR.cells) (size := 3) (by decide) opCells_len (ho.ext hI.ext) hoi
      subst hd
      rintro d' rfl
      rw [scale_eq, Int.toNat_natCast]
      refine ld_cell (hcell 0 (by decide) _ rfl) ?_
      refine ld_cell (hcell 1 (by decide) _ rfl) ?_
      refine ld_cell (hcell 2 (by decide) _ rfl) ?_
      refine al_el fun k5 w21 hk5 hblk5 hx21 hsz21 => ?_
      refine st_el hblk5 (Nat.le_refl _) fun w22 h22 hu22 hsz22 => ?_
      have hb22 : w22.heap[k5]? = some (.cells o.cells.toArray 49 (0, 0)) := h22
      have hI22 := hI.go (Ext.upd hx21 hu22 (fun i hi => by rw [hi, hk5]; exact Nat.le_refl _))
      refine builderLen_el hI22.bok ?_
      refine cnd_i (fun hgt => ?_) (fun hgt => ?_)
      · rw [iGt_t] at hgt
        refine behind q' w22 ?_
        rw [htext]; unfold opsText; rw [if_pos (by omega)]; exact hI22
      · rw [iGt_f] at hgt
        rintro w24 hw24
        have hx24 : Ext w22 w24 := by rw [hw24]; exact Ext.drew
        have hb24 := hx24.blk hb22 (fun h => h)
        have hI24 := hI22.go hx24
        have hc1 := cell_blk hb24 (v := .int .i64 o.n) (o := 1) rfl
        have hc2 := cell_blk hb24 (v := .float .f64 o.x) (o := 2) rfl
        refine ld_blk hb24 (v := .int .i64 o.kind) rfl (ld_cell hc1 (ld_cell hc2 ?_))
        have hl1 := Lib.itoa_length_le _ how.k0 how.k1
        have hl2 := Lib.itoa_length_le _ how.n0 how.n1
        have hl3 : (hexText o.x).length = 16 := hexFill_len 16 o.x
        have catok : ∀ a b : ByteArray, a.size ≤ 200 → b.size ≤ 200 → catOk a b := by intro a b ha hb; unfold catOk; omega
        have catsz : ∀ a b : ByteArray, (cat a b).size = a.size + b.size := by intro a b; simp [cat]
        have s1 : ByteArray.size ⟨(Lib.itoa o.kind).toArray⟩ = (Lib.itoa o.kind).length := by rw [size_len]
        have s2 : ByteArray.size ⟨(Lib.itoa o.n).toArray⟩ = (Lib.itoa o.n).length := by rw [size_len]
        have s3 : (bs (hexText o.x)).size = 16 := by rw [size_len]; exact hl3
        have s4 : (bs [111, 112, 32]).size = 3 := by decide
        have s5 : (bs [32]).size = 1 := by decide
        have s6 : (bs [10]).size = 1 := by decide
        refine itoa_el (lw hI24) how.k0 how.k1 fun w25 hx25 => ?_
        refine ⟨hx25.cell hc1 (fun h => h), hx25.cell hc2 (fun h => h), catok _ _ (by omega) (by omega), catok _ _ (by rw [catsz]; omega) (by omega), ?_⟩
        refine formatInt_el (lw (hI24.go hx25)) how.n0 how.n1 fun w26 hx26 => ?_
        refine ⟨Upd.cell (hx25.trans hx26) hc2 (fun h => h), catok _ _ (by simp only [catsz]; omega) (by omega), catok _ _ (by simp only [catsz]; omega) (by omega), ?_⟩
        refine hex_el (lw ((hI24.go hx25).go hx26)) how.x fun w27 hx27 => ?_
        refine ⟨catok _ _ (by simp only [catsz]; omega) (by omega), catok _ _ (by simp only [catsz]; omega) (by omega), ?_⟩
        have hI27 := ((hI24.go hx25).go hx26).go hx27
        have hcat : (cat (cat (cat (cat (cat (cat (bs [111, 112, 32]) ⟨(Lib.itoa o.kind).toArray⟩) (bs [32])) ⟨(Lib.itoa o.n).toArray⟩) (bs [32])) (bs (hexText o.x))) (bs [10])).data.toList = opText o := by simp [cat, bs, opText]
        have hop := opText_len how
        refine writeString_el hI27.bok (by rw [size_len, hcat]; omega) fun q28 w28 hB28 hu28 hfr28 => ?_
        have hI28 := hI27.wr hB28 hu28 hfr28
        rw [hcat] at hI28
        have hnext : iAdd .i64 (i : Int) 1 = ((i + 1 : Nat) : Int) := by rw [iAdd_i64 (by omega) (by omega)]; omega
        show L3 [.int .i64 (iAdd .i64 (i : Int) 1)] w28
        rw [hnext]
        refine ih (i + 1) q28 _ w28 (by omega) (by rw [← List.drop_drop, hdrop]; rfl) ?_ (by rw [List.length_append]; omega) hI28
        rw [htext]; conv => lhs; unfold opsText
        rw [if_neg (by omega)]
  | cons n rest ih =>
    intro i q' l' w7 hi hdrop htext hl' hI
    simp only [List.length_cons] at hi
    have hni : p.nums[i]? = some n := by
      have : (p.nums.drop i)[0]? = some n := by rw [hdrop]; rfl
      simpa using this
    have hnr := hp.nums n (List.mem_of_getElem? hni)
    refine hL1 _ _ fun _ => if_t (by rw [iLt_t, lenN_el]; omega) ⟨by unfold inB; omega, ?_⟩
    rintro d rfl
    rw [Int.toNat_natCast, zero_add_pl]
    refine ld_blk hI.ar (v := .int .i64 n) (by simp [hni]) ?_
    refine itoa_el (lw hI) hnr.1 hnr.2 fun w8 hx8 => ?_
    have hil := Lib.itoa_length_le n hnr.1 hnr.2
    have hsz : ByteArray.size ⟨(Lib.itoa n).toArray⟩ = (Lib.itoa n).length := by rw [size_len]
    have hcat : (cat (bs [32]) ⟨(Lib.itoa n).toArray⟩).data.toList = 32 :: Lib.itoa n := by simp [cat, bs]
    refine ⟨by unfold catOk; rw [hsz, size_len]; simp [bs]; omega, ?_⟩
    have hI8 := hI.go hx8
    refine writeString_el hI8.bok (by rw [size_len, hcat, List.length_cons]; omega) fun q9 w9 hB9 hu9 hfr9 => ?_
    have hI9 := hI8.wr hB9 hu9 hfr9
    rw [hcat] at hI9
    have hnext : iAdd .i64 (i : Int) 1 = ((i + 1 : Nat) : Int) := by rw [iAdd_i64 (by omega) (by omega)]; omega
    show L1 [.int .i64 (iAdd .i64 (i : Int) 1)] w9
    rw [hnext]
    refine ih (i + 1) q9 _ w9 (by omega) (by rw [← List.drop_drop, hdrop]; rfl) ?_ (by simp only [List.length_append, List.length_cons]; omega) hI9
    rw [htext]; simp [numsText]
end Go.Proofs.YtgfbkmclekafbaaGreatDoor

/- The law's helpers: the same steps, the same plan. -/
set_option maxRecDepth 100000
namespace Go.Proofs.YtgfbkmclekafbaaGreatDoor
open Go Go.Vc

theorem or_t {A B : Prop} {b : Bool} (hb : b = true ↔ A) (h : b = true) : (true = true ↔ (A ∨ B)) := ⟨fun _ => .inl (hb.1 h), fun _ => rfl⟩
theorem or_f {A : Prop} {b : Bool} (hb : b = true ↔ A) (h : b = false) {x y : Int} : (iNe x y = true ↔ (A ∨ x ≠ y)) := by
  rw [iNe_t]
  refine ⟨.inr, fun hh => ?_⟩
  rcases hh with hh | hh
  · rw [hb.2 hh] at h; cases h
  · exact hh
theorem or_fb {A B : Prop} {b c : Bool} (hb : b = true ↔ A) (h : b = false) (hc : c = true ↔ B) : (c = true ↔ (A ∨ B)) := by
  refine ⟨fun hh => .inr (hc.1 hh), fun hh => ?_⟩
  rcases hh with hh | hh
  · rw [hb.2 hh] at h; cases h
  · exact hc.2 hh
theorem sameF_el {x y : Nat} {w : World} {K : Value → World → Prop} {X : List PanicEntry → World → Prop} (h : K (.bool (iEq x y)) w) : call P n_repriseraw_Same [.float .f64 x, .float .f64 y] w K X := by
  refine repriseraw_Same.call ?_
  unfold repriseraw_Same.F
  exact bits_el (X := X) (bits_el (X := X) h)

theorem st_ext {s t : St} (h1 : s.kind = t.kind) (h2 : s.node = t.node) (h3 : s.n = t.n) (h4 : s.key = t.key) (h5 : s.val = t.val) : s = t := by cases s; cases t; simp_all
theorem st_ne {s t : St} : (((((s.kind ≠ t.kind ∨ s.node ≠ t.node) ∨ s.n ≠ t.n) ∨ (s.key : Int) ≠ t.key)) ∨ s.val ≠ t.val) ↔ s ≠ t := by
  constructor
  · rintro ((((h | h) | h) | h) | h) <;> (rintro rfl; exact h rfl)
  · intro h
    by_cases h1 : s.kind = t.kind
    · by_cases h2 : s.node = t.node
      · by_cases h3 : s.n = t.n
        · by_cases h4 : s.key = t.key
          · by_cases h5 : s.val = t.val
            · exact absurd (st_ext h1 h2 h3 h4 h5) h
            · exact .inr h5
          · exact .inl (.inr (by omega))
        · exact .inl (.inl (.inr h3))
      · exact .inl (.inl (.inl (.inr h2)))
    · exact .inl (.inl (.inl (.inl h1)))

theorem same_el {l m : List St} {a a' : Option Addr} {n c n' c' : Nat} {w : World} {K : Value → World → Prop} {X : List PanicEntry → World → Prop}
    (hl : Cells w a (stepsCells l)) (hm : Cells w a' (stepsCells m)) (hn : n = l.length) (hn' : n' = m.length) (hb : l.length < 9223372036854775807)
    (h : ∀ (b : Bool) w', (b = true ↔ l = m) → Ext w w' → K (.bool b) w') : call P n_repriselaw21_same [.slice a n c, .slice a' n' c'] w K X := by
  refine repriselaw21_same.call ?_
  unfold repriselaw21_same.F
  refine cnd_i (fun hne => ?_) (fun heq => ?_)
  · rw [iNe_t, lenN_el, lenN_el] at hne
    refine h false w ?_ (Upd.refl _ _)
    refine Iff.intro (fun hh => nomatch hh) (fun hh => ?_)
    subst hh; omega
  rw [iNe_f, lenN_el, lenN_el] at heq
  intro L hL
  suffices hh : ∀ (k i : Nat) (w3 : World), i + k = l.length → (l = m ↔ l.drop i = m.drop i) → Ext w w3 → L [.int .i64 (i : Int)] w3 from hh l.length 0 w (by omega) (by simp) (Upd.refl _ _)
  intro k
  induction k with
  | zero =>
    intro i w3 hi hiff hx3
    refine hL _ _ fun _ => if_f (by rw [iLt_f, lenN_el]; omega) (h true w3 ?_ hx3)
    refine ⟨fun _ => hiff.2 ?_, fun _ => rfl⟩
    rw [List.drop_eq_nil_of_le (by omega), List.drop_eq_nil_of_le (by omega)]
  | succ k ih =>
    intro i w3 hi hiff hx3
    have hil : i < l.length := by omega
    have him : i < m.length := by omega
    obtain ⟨s, hs⟩ : ∃ s, l[i]? = some s := ⟨_, List.getElem?_eq_getElem hil⟩
    obtain ⟨t, ht⟩ : ∃ t, m[i]? = some t := ⟨_, List.getElem?_eq_getElem him⟩
    have hd1 : l.drop i = s :: l.drop (i + 1) := by
      rw [List.drop_eq_getElem_cons hil]; obtain ⟨_, he⟩ := List.getElem?_eq_some_iff.1 hs; rw [he]
    have hd2 : m.drop i = t :: m.drop (i + 1) := by
      rw [List.drop_eq_getElem_cons him]; obtain ⟨_, he⟩ := List.getElem?_eq_some_iff.1 ht; rw [he]
    refine hL _ _ fun _ => if_t (by rw [iLt_t, lenN_el]; omega) ⟨by unfold inB; omega, ?_⟩
    obtain ⟨d, hd, hcell⟩ := flat_cells (f := St.cells) (size := 5) (by decide) stepCells_len (hl.ext hx3) hs
    subst hd
    rintro d' rfl
    rw [scale_eq, Int.toNat_natCast]
    refine ld_cell (hcell 0 (by decide) _ rfl) ?_
    refine ld_cell (hcell 1 (by decide) _ rfl) ?_
    refine ld_cell (hcell 2 (by decide) _ rfl) ?_
    refine ld_cell (hcell 3 (by decide) _ rfl) ?_
    refine ld_cell (hcell 4 (by decide) _ rfl) ?_
    refine al_el fun k1 w5 hk1 hblk1 hx5 hsz5 => ?_
    refine st_el hblk1 (Nat.le_refl _) fun w6 h6 hu6 hsz6 => ?_
    have hs6 : w6.heap[k1]? = some (.cells s.cells.toArray 46 (0, 0)) := h6
    have hx6 : Ext w w6 := Ext.upd (hx3.trans hx5) hu6 (fun i hi => by rw [hi, hk1]; exact hx3.size)
    refine ⟨by unfold inB; omega, ?_⟩
    obtain ⟨d2, hd2', hcell2⟩ := flat_cells (f := St.cells) (size := 5) (by decide) stepCells_len (hm.ext hx6) ht
    subst hd2'
    rintro d' rfl
    refine ld_cell (hcell2 0 (by decide) _ rfl) ?_
    refine ld_cell (hcell2 1 (by decide) _ rfl) ?_
    refine ld_cell (hcell2 2 (by decide) _ rfl) ?_
    refine ld_cell (hcell2 3 (by decide) _ rfl) ?_
    refine ld_cell (hcell2 4 (by decide) _ rfl) ?_
    refine al_el fun k2 w7 hk2 hblk2 hx7 hsz7 => ?_
    refine st_el hblk2 (Nat.le_refl _) fun w8 h8 hu8 hsz8 => ?_
    have ht8 : w8.heap[k2]? = some (.cells t.cells.toArray 46 (0, 0)) := h8
    have h12 : k1 ≠ k2 := by have := blk_lt hs6; omega
    have hs8 := hu8.blk (hx7.blk hs6 (fun h => h)) h12
    have hx8 : Ext w w8 := Ext.upd (hx6.trans hx7) hu8 (fun i hi => by rw [hi, hk2]; exact hx6.size)
    have hnext : iAdd .i64 (i : Int) 1 = ((i + 1 : Nat) : Int) := by rw [iAdd_i64 (by omega) (by omega)]; omega
    rw [hnext]
    have fin : ∀ b : Bool, (b = true ↔ s ≠ t) → cnd b (K (.bool false) w8) (L [.int .i64 ((i + 1 : Nat) : Int)] w8) := by
      intro b hb
      refine cnd_i (fun hh => h false w8 ?_ hx8) (fun hh => ih (i + 1) w8 (by omega) ?_ hx8)
      · refine Iff.intro (fun hh => nomatch hh) (fun hlm => ?_)
        have := hiff.1 hlm
        rw [hd1, hd2] at this
        exact absurd (List.cons.inj this).1 (hb.1 hh)
      · have hst : s = t := by
          by_cases he : s = t
          · exact he
          · rw [hb.2 he] at hh; cases hh
        rw [hiff, hd1, hd2, hst]; simp
    refine ld_blk hs8 (v := .int .i64 s.kind) rfl (ld_blk ht8 (v := .int .i64 t.kind) rfl ?_)
    intro K1 hK1
    have s1 : ∀ b : Bool, (b = true ↔ (s.kind ≠ t.kind ∨ s.node ≠ t.node)) → K1 [.bool b] w8 := by
      intro b hb
      refine hK1 _ _ fun _ => ?_
      intro K2 hK2
      have s2 : ∀ b : Bool, (b = true ↔ ((s.kind ≠ t.kind ∨ s.node ≠ t.node) ∨ s.n ≠ t.n)) → K2 [.bool b] w8 := by
        intro b hb
        refine hK2 _ _ fun _ => ?_
        intro K3 hK3
        have s3 : ∀ b : Bool, (b = true ↔ (((s.kind ≠ t.kind ∨ s.node ≠ t.node) ∨ s.n ≠ t.n) ∨ (s.key : Int) ≠ t.key)) → K3 [.bool b] w8 := by
          intro b hb
          refine hK3 _ _ fun _ => ?_
          intro K4 hK4
          refine cnd_i (fun hh => hK4 _ _ fun _ => fin true ?_) (fun hh => ?_)
          · rw [← st_ne]; exact or_t hb hh
          · refine ld_blk hs8 (v := .float .f64 s.val) rfl (ld_blk ht8 (v := .float .f64 t.val) rfl (sameF_el ?_))
            refine hK4 _ _ fun _ => fin _ ?_
            rw [← st_ne]
            refine or_fb hb hh ?_
            rw [Bool.not_eq_true', iEq_f]; omega
        exact cnd_i (fun hh => s3 true (or_t hb hh)) (fun hh => ld_blk hs8 (v := .int .u64 s.key) rfl (ld_blk ht8 (v := .int .u64 t.key) rfl (s3 _ (or_f hb hh))))
      exact cnd_i (fun hh => s2 true (or_t hb hh)) (fun hh => ld_blk hs8 (v := .int .i64 s.n) rfl (ld_blk ht8 (v := .int .i64 t.n) rfl (s2 _ (or_f hb hh))))
    have hb0 : (iNe s.kind t.kind = true ↔ s.kind ≠ t.kind) := by rw [iNe_t]
    exact cnd_i (fun hh => s1 true (or_t hb0 hh)) (fun hh => ld_blk hs8 (v := .int .i64 s.node) rfl (ld_blk ht8 (v := .int .i64 t.node) rfl (s1 _ (or_f hb0 hh))))

theorem plan_ne {p r : PlanR} (h : p.ops = r.ops) : (((((((p.p0 ≠ r.p0 ∨ p.p1 ≠ r.p1) ∨ p.p2 ≠ r.p2) ∨ p.p4 ≠ r.p4) ∨ p.p5 ≠ r.p5) ∨ p.p6 ≠ r.p6) ∨ p.p7 ≠ r.p7) ∨ (p.ops.length : Int) ≠ r.ops.length) ↔ p ≠ r := by
  constructor
  · rintro hh rfl; simp at hh
  · intro hh
    by_cases h0 : p.p0 = r.p0 <;> by_cases h1 : p.p1 = r.p1 <;> by_cases h2 : p.p2 = r.p2 <;> by_cases h4 : p.p4 = r.p4 <;> by_cases h5 : p.p5 = r.p5 <;> by_cases h6 : p.p6 = r.p6 <;> by_cases h7 : p.p7 = r.p7 <;> simp only [h0, h1, h2, h4, h5, h6, h7, ne_eq, not_true_eq_false, not_false_eq_true, or_true, true_or, or_false, false_or]
    exact absurd (by cases p; cases r; simp_all) hh

theorem op_ne {s t : OpR} : ((s.kind ≠ t.kind ∨ s.n ≠ t.n) ∨ s.x ≠ t.x) ↔ s ≠ t := by
  constructor
  · rintro ((h | h) | h) <;> (rintro rfl; exact h rfl)
  · intro h
    by_cases h1 : s.kind = t.kind
    · by_cases h2 : s.n = t.n
      · by_cases h3 : s.x = t.x
        · exact absurd (by cases s; cases t; simp_all) h
        · exact .inr h3
      · exact .inl (.inr h2)
    · exact .inl (.inl h1)

theorem plans_el {p r : PlanR} {oq oq' : Option Addr} {ol oc ol' oc' : Nat} {w : World} {K : Value → World → Prop} {X : List PanicEntry → World → Prop}
    (hp : Cells w oq (opsCells p.ops)) (hr : Cells w oq' (opsCells r.ops)) (hn : ol = p.ops.length) (hn' : ol' = r.ops.length) (hb : p.ops.length < 9223372036854775807)
    (h : ∀ (b : Bool) w', (b = true ↔ p = r) → Ext w w' → K (.bool b) w') : call P n_repriselaw21_plans [.agg (p.cells oq ol oc).toArray, .agg (r.cells oq' ol' oc').toArray] w K X := by
  subst hn hn'
  refine repriselaw21_plans.call ?_
  unfold repriselaw21_plans.F
  refine al_el fun k1 w1 hk1 hblk1 hx1 hsz1 => ?_
  refine al_el fun k2 w2 hk2 hblk2 hx2 hsz2 => ?_
  have hp2 : w2.heap[k1]? = some (.cells (p.cells oq p.ops.length oc).toArray 24 (0, 0)) := hx2.blk hblk1 (fun h => h)
  have hr2 : w2.heap[k2]? = some (.cells (r.cells oq' r.ops.length oc').toArray 24 (0, 0)) := hblk2
  have hxw := hx1.trans hx2
  refine ld_blk hp2 (v := .int .i64 p.p0) rfl (ld_blk hr2 (v := .int .i64 r.p0) rfl ?_)
  have hb0 : (iNe p.p0 r.p0 = true ↔ p.p0 ≠ r.p0) := by rw [iNe_t]
  intro K1 hK1
  have s1 : ∀ b : Bool, (b = true ↔ (p.p0 ≠ r.p0 ∨ p.p1 ≠ r.p1)) → K1 [.bool b] w2 := by
    intro b hb
    refine hK1 _ _ fun _ => ?_
    intro K2 hK2
    have s2 : ∀ b : Bool, (b = true ↔ ((p.p0 ≠ r.p0 ∨ p.p1 ≠ r.p1) ∨ p.p2 ≠ r.p2)) → K2 [.bool b] w2 := by
      intro b hb
      refine hK2 _ _ fun _ => ?_
      intro K3 hK3
      have s3 : ∀ b : Bool, (b = true ↔ (((p.p0 ≠ r.p0 ∨ p.p1 ≠ r.p1) ∨ p.p2 ≠ r.p2) ∨ p.p4 ≠ r.p4)) → K3 [.bool b] w2 := by
        intro b hb
        refine hK3 _ _ fun _ => ?_
        intro K4 hK4
        have s4 : ∀ b : Bool, (b = true ↔ ((((p.p0 ≠ r.p0 ∨ p.p1 ≠ r.p1) ∨ p.p2 ≠ r.p2) ∨ p.p4 ≠ r.p4) ∨ p.p5 ≠ r.p5)) → K4 [.bool b] w2 := by
          intro b hb
          refine hK4 _ _ fun _ => ?_
          intro K5 hK5
          have s5 : ∀ b : Bool, (b = true ↔ (((((p.p0 ≠ r.p0 ∨ p.p1 ≠ r.p1) ∨ p.p2 ≠ r.p2) ∨ p.p4 ≠ r.p4) ∨ p.p5 ≠ r.p5) ∨ p.p6 ≠ r.p6)) → K5 [.bool b] w2 := by
            intro b hb
            refine hK5 _ _ fun _ => ?_
            intro K6 hK6
            have s6 : ∀ b : Bool, (b = true ↔ ((((((p.p0 ≠ r.p0 ∨ p.p1 ≠ r.p1) ∨ p.p2 ≠ r.p2) ∨ p.p4 ≠ r.p4) ∨ p.p5 ≠ r.p5) ∨ p.p6 ≠ r.p6) ∨ p.p7 ≠ r.p7)) → K6 [.bool b] w2 := by
              intro b hb
              refine hK6 _ _ fun _ => ?_
              intro K7 hK7
              have s7 : ∀ b : Bool, (b = true ↔ (((((((p.p0 ≠ r.p0 ∨ p.p1 ≠ r.p1) ∨ p.p2 ≠ r.p2) ∨ p.p4 ≠ r.p4) ∨ p.p5 ≠ r.p5) ∨ p.p6 ≠ r.p6) ∨ p.p7 ≠ r.p7) ∨ (p.ops.length : Int) ≠ r.ops.length)) → K7 [.bool b] w2 := by
                intro b hb
                refine hK7 _ _ fun _ => ?_
                refine cnd_i (fun hh => h false w2 ?_ hxw) (fun hh => ?_)
                · refine Iff.intro (fun hq => nomatch hq) (fun hq => ?_)
                  have := hb.1 hh
                  subst hq; simp at this
                have hno : ¬ (((((((p.p0 ≠ r.p0 ∨ p.p1 ≠ r.p1) ∨ p.p2 ≠ r.p2) ∨ p.p4 ≠ r.p4) ∨ p.p5 ≠ r.p5) ∨ p.p6 ≠ r.p6) ∨ p.p7 ≠ r.p7) ∨ (p.ops.length : Int) ≠ r.ops.length) := fun hq => by rw [hb.2 hq] at hh; cases hh
                have hlen : p.ops.length = r.ops.length := by
                  by_cases hq : p.ops.length = r.ops.length
                  · exact hq
                  · exact absurd (.inr (by omega)) hno
                have hiff : p = r ↔ p.ops = r.ops := by
                  refine ⟨fun hq => by rw [hq], fun hq => ?_⟩
                  by_cases he : p = r
                  · exact he
                  · exact absurd ((plan_ne hq).2 he) hno
                intro L hL
                suffices hh : ∀ (k i : Nat) (w3 : World), i + k = p.ops.length → (p = r ↔ p.ops.drop i = r.ops.drop i) → Ext w2 w3 → L [.int .i64 (i : Int)] w3 from hh p.ops.length 0 w2 (by omega) (by rw [hiff]; simp) (Upd.refl _ _)
                intro k
                induction k with
                | zero =>
                  intro i w3 hi hif hx3
                  refine hL _ _ fun _ => ld_blk (hx3.blk hp2 (fun h => h)) (v := .slice oq p.ops.length oc) rfl ?_
                  refine if_f (by rw [iLt_f, lenN_el]; omega) (h true w3 ?_ (hxw.trans hx3))
                  refine ⟨fun _ => hif.2 ?_, fun _ => rfl⟩
                  rw [List.drop_eq_nil_of_le (by omega), List.drop_eq_nil_of_le (by omega)]
                | succ k ih =>
                  intro i w3 hi hif hx3
                  have hil : i < p.ops.length := by omega
                  have him : i < r.ops.length := by omega
                  obtain ⟨s, hs⟩ : ∃ s, p.ops[i]? = some s := ⟨_, List.getElem?_eq_getElem hil⟩
                  obtain ⟨t, ht⟩ : ∃ t, r.ops[i]? = some t := ⟨_, List.getElem?_eq_getElem him⟩
                  have hd1 : p.ops.drop i = s :: p.ops.drop (i + 1) := by
                    rw [List.drop_eq_getElem_cons hil]; obtain ⟨_, he⟩ := List.getElem?_eq_some_iff.1 hs; rw [he]
                  have hd2 : r.ops.drop i = t :: r.ops.drop (i + 1) := by
                    rw [List.drop_eq_getElem_cons him]; obtain ⟨_, he⟩ := List.getElem?_eq_some_iff.1 ht; rw [he]
                  refine hL _ _ fun _ => ld_blk (hx3.blk hp2 (fun h => h)) (v := .slice oq p.ops.length oc) rfl ?_
                  refine if_t (by rw [iLt_t, lenN_el]; omega) ?_
                  rintro w12 hw12
                  have hx12 : Ext w2 w12 := hx3.trans (by rw [hw12]; exact Ext.drew)
                  have hp12 := hx12.blk hp2 (fun h => h)
                  have hr12 := hx12.blk hr2 (fun h => h)
                  obtain ⟨d, hd, hcell⟩ := flat_cells (f := OpR.cells) (size := 3) (by decide) opCells_len (hp.ext (hxw.trans hx12)) hs
                  obtain ⟨d2, hd2', hcell2⟩ := flat_cells (f := OpR.cells) (size := 3) (by decide) opCells_len (hr.ext (hxw.trans hx12)) ht
                  subst hd hd2'
                  have inl : inB (i : Int) p.ops.length := by unfold inB; omega
                  have inr : inB (i : Int) r.ops.length := by unfold inB; omega
                  have hnext : iAdd .i64 (i : Int) 1 = ((i + 1 : Nat) : Int) := by rw [iAdd_i64 (by omega) (by omega)]; omega
                  have hxe := hxw.trans hx12
                  rw [hnext]
                  have fin : ∀ b : Bool, (b = true ↔ s ≠ t) → cnd b (K (.bool false) w12) (L [.int .i64 ((i + 1 : Nat) : Int)] w12) := by
                    intro b hb
                    refine cnd_i (fun hh => h false w12 ?_ hxe) (fun hh => ih (i + 1) w12 (by omega) ?_ hx12)
                    · refine Iff.intro (fun hh => nomatch hh) (fun hlm => ?_)
                      have := hif.1 hlm
                      rw [hd1, hd2] at this
                      exact absurd (List.cons.inj this).1 (hb.1 hh)
                    · have hst : s = t := by
                        by_cases he : s = t
                        · exact he
                        · rw [hb.2 he] at hh; cases hh
                      rw [hif, hd1, hd2, hst]; simp
                  refine ld_blk hp12 (v := .slice (some d) p.ops.length oc) rfl (ld_blk hr12 (v := .slice (some d2) r.ops.length oc') rfl ⟨inl, ?_⟩)
                  rintro da rfl
                  refine ⟨inr, ?_⟩
                  rintro db rfl
                  simp only [scale_eq, Int.toNat_natCast]
                  refine ld_cell (hcell 0 (by decide) _ rfl) (ld_cell (hcell2 0 (by decide) _ rfl) ?_)
                  intro K8 hK8
                  have s8 : ∀ b : Bool, (b = true ↔ (s.kind ≠ t.kind ∨ s.n ≠ t.n)) → K8 [.bool b] w12 := by
                    intro b hb
                    refine hK8 _ _ fun _ => ?_
                    intro K9 hK9
                    refine cnd_i (fun hh => hK9 _ _ fun _ => fin true ?_) (fun hh => ?_)
                    · rw [← op_ne]; exact or_t hb hh
                    · refine ld_blk hp12 (v := .slice (some d) p.ops.length oc) rfl (ld_blk hr12 (v := .slice (some d2) r.ops.length oc') rfl ⟨inl, ?_⟩)
                      rintro da rfl
                      refine ⟨inr, ?_⟩
                      rintro db rfl
                      refine ld_cell (hcell 2 (by decide) _ rfl) (ld_cell (hcell2 2 (by decide) _ rfl) (sameF_el ?_))
                      refine hK9 _ _ fun _ => fin _ ?_
                      rw [← op_ne]
                      refine or_fb hb hh ?_
                      rw [Bool.not_eq_true', iEq_f]; omega
                  have hb8 : (iNe s.kind t.kind = true ↔ s.kind ≠ t.kind) := by rw [iNe_t]
                  refine cnd_i (fun hh => s8 true (or_t hb8 hh)) (fun hh => ?_)
                  refine ld_blk hp12 (v := .slice (some d) p.ops.length oc) rfl (ld_blk hr12 (v := .slice (some d2) r.ops.length oc') rfl ⟨inl, ?_⟩)
                  rintro da rfl
                  refine ⟨inr, ?_⟩
                  rintro db rfl
                  exact ld_cell (hcell 1 (by decide) _ rfl) (ld_cell (hcell2 1 (by decide) _ rfl) (s8 _ (or_f hb8 hh)))
              exact cnd_i (fun hh => s7 true (or_t hb hh)) (fun hh => ld_blk hp2 (v := .slice oq p.ops.length oc) rfl (ld_blk hr2 (v := .slice oq' r.ops.length oc') rfl (s7 _ (or_f hb hh))))
            exact cnd_i (fun hh => s6 true (or_t hb hh)) (fun hh => ld_blk hp2 (v := .int .i64 p.p7) rfl (ld_blk hr2 (v := .int .i64 r.p7) rfl (s6 _ (or_f hb hh))))
          exact cnd_i (fun hh => s5 true (or_t hb hh)) (fun hh => ld_blk hp2 (v := .int .i64 p.p6) rfl (ld_blk hr2 (v := .int .i64 r.p6) rfl (s5 _ (or_f hb hh))))
        exact cnd_i (fun hh => s4 true (or_t hb hh)) (fun hh => ld_blk hp2 (v := .int .i64 p.p5) rfl (ld_blk hr2 (v := .int .i64 r.p5) rfl (s4 _ (or_f hb hh))))
      exact cnd_i (fun hh => s3 true (or_t hb hh)) (fun hh => ld_blk hp2 (v := .int .i64 p.p4) rfl (ld_blk hr2 (v := .int .i64 r.p4) rfl (s3 _ (or_f hb hh))))
    exact cnd_i (fun hh => s2 true (or_t hb hh)) (fun hh => ld_blk hp2 (v := .int .i64 p.p2) rfl (ld_blk hr2 (v := .int .i64 r.p2) rfl (s2 _ (or_f hb hh))))
  exact cnd_i (fun hh => s1 true (or_t hb0 hh)) (fun hh => ld_blk hp2 (v := .int .i64 p.p1) rfl (ld_blk hr2 (v := .int .i64 r.p1) rfl (s1 _ (or_f hb0 hh))))
end Go.Proofs.YtgfbkmclekafbaaGreatDoor

/- The law's bare text. -/
set_option maxRecDepth 100000
namespace Go.Proofs.YtgfbkmclekafbaaGreatDoor
open Go Go.Vc

/-- a line as it is kept -/
def emit : List UInt8 → List UInt8
  | [] => []
  | c :: r => if c = 35 then [] else c :: r ++ [10]
def bareF (out cur : List UInt8) : List UInt8 → List UInt8
  | [] => out ++ emit cur
  | c :: r => if c = 10 then bareF (out ++ emit cur) [] r else bareF out (cur ++ [c]) r
theorem emit_cons (c : UInt8) (r : List UInt8) : emit (c :: r) = if c = 35 then [] else c :: r ++ [10] := rfl
theorem emit_len (c : List UInt8) : (emit c).length ≤ c.length + 1 := by
  cases c with
  | nil => simp [emit]
  | cons c r => rw [emit_cons]; split <;> simp

theorem bare_el {s : ByteArray} {w : World} {K : Value → World → Prop} {X : List PanicEntry → World → Prop} (hs : s.size < 4294967296)
    (h : ∀ w', Ext w w' → K (.string ⟨(bareF [] [] s.data.toList).toArray⟩) w') : call P n_repriselaw21_bare [.string s] w K X := by
  refine repriselaw21_bare.call ?_
  unfold repriselaw21_bare.F
  intro L hL
  have hsz := size_len s
  -- a line ends
  suffices hh : ∀ (k i at_ : Nat) (out : List UInt8) (q : Option Addr) (c : Nat) (w1 : World), i + k = s.size + 1 → at_ ≤ i → out.length ≤ at_ →
      (i ≤ s.size → bareF [] [] s.data.toList = bareF out ((s.data.toList.take i).drop at_) (s.data.toList.drop i)) → (s.size < i → bareF [] [] s.data.toList = out) →
      Row w1 5 1 q out.length c (out.map byteVal) → (∀ x, blkOf q = some x → w.heap.size ≤ x) → Ext w w1 → L [.slice q out.length c, .int .i64 (at_ : Int), .int .i64 (i : Int)] w1 from
    hh (s.size + 1) 0 0 [] none 0 w (by omega) (by omega) (by simp) (by intro _; simp) (by intro h; omega) Row.nil (by simp [blkOf]) (Upd.refl _ _)
  intro k
  induction k with
  | zero =>
    intro i at_ out q c w1 hi hat hout h1 h2 hrow hlo hx
    refine hL _ _ _ _ _ _ fun _ => if_f (by rw [iLe_f, lenN_el]; omega) ?_
    refine conv_str (l := out) Go.Proofs.Tryz.underlying39 Go.Proofs.Tryz.underlying5 Go.Proofs.Tryz.underlying9 rfl hrow.cells ?_
    have := h2 (by omega)
    rw [← this]; exact h w1 hx
  | succ k ih =>
    intro i at_ out q c w1 hi hat hout h1 h2 hrow hlo hx
    have h1' := h1 (by omega)
    have hnext : iAdd .i64 (i : Int) 1 = ((i + 1 : Nat) : Int) := by rw [iAdd_i64 (by omega) (by omega)]; omega
    refine hL _ _ _ _ _ _ fun _ => if_t (by rw [iLe_t, lenN_el]; omega) ?_
    rw [hnext]
    intro K1 hK1
    have hcurlen : ((s.data.toList.take i).drop at_).length = i - at_ := by rw [List.length_drop, List.length_take]; omega
    -- behind a line's end
    have ends : (i < s.size → bareF [] [] s.data.toList = bareF (out ++ emit ((s.data.toList.take i).drop at_)) [] (s.data.toList.drop (i + 1))) →
        (s.size ≤ i → bareF [] [] s.data.toList = out ++ emit ((s.data.toList.take i).drop at_)) → K1 [.bool false] w1 := by
      intro e1 e2
      refine hK1 _ _ fun _ => if_f rfl ?_
      intro K2 hK2
      obtain ⟨cur, hcur⟩ : ∃ cur, cur = (s.data.toList.take i).drop at_ := ⟨_, rfl⟩
      rw [← hcur] at e1 e2 hcurlen
      have skip : emit cur = [] → K2 [.bool false] w1 := by
        intro he
        rw [he, List.append_nil] at e1 e2
        refine hK2 _ _ fun _ => if_f rfl ?_
        refine ih (i + 1) (i + 1) out q c w1 (by omega) (by omega) (by omega) (fun hi1 => ?_) (fun hi1 => e2 (by omega)) hrow hlo hx
        rw [e1 (by omega)]; congr 1; rw [List.drop_eq_nil_of_le]; rw [List.length_take]; omega
      refine cnd_i (fun hg => ?_) (fun hg => skip ?_)
      · rw [iGt_t] at hg
        cases hc : cur with
        | nil => rw [hc] at hcurlen; simp at hcurlen; omega
        | cons x r =>
          have hx0 : s.data.toList[at_]? = some x := by
            have h0 : ((s.data.toList.take i).drop at_)[0]? = some x := by rw [← hcur, hc]; rfl
            rw [List.getElem?_drop, Nat.add_zero, List.getElem?_take] at h0
            split at h0
            · exact h0
            · cases h0
          refine ⟨by unfold inB; omega, ?_⟩
          rw [bt_at hx0]
          by_cases h35 : x = 35
          · have : iNe ((x.toNat : Nat) : Int) 35 = false := by rw [iNe_f, h35]; rfl
            rw [this]
            exact skip (by rw [hc, emit_cons, if_pos h35])
          · have : iNe ((x.toNat : Nat) : Int) 35 = true := by
              rw [iNe_t]; intro hq; apply h35; apply UInt8.toNat_inj.1; show x.toNat = 35; omega
            rw [this]
            refine hK2 _ _ fun _ => if_t rfl ⟨by unfold inC; omega, by unfold inC; omega, ?_⟩
            have hem : emit cur = cur ++ [10] := by rw [hc, emit_cons, if_neg h35]
            have hcs : (cutS s (Int.toNat (at_ : Int)) (Int.toNat (i : Int))).data.toList = cur := by rw [cutS_data, Int.toNat_natCast, Int.toNat_natCast, hcur]
            have hcsz : (cutS s (Int.toNat (at_ : Int)) (Int.toNat (i : Int))).size = i - at_ := by rw [size_len, hcs, hcurlen]
            obtain ⟨inf, hi', hsize, hby, hz⟩ := info_of (P := P) (e := 5) (size := 1) (bytes := 1) (z := .int .u8 0) (by kernel_rfl) (by kernel_rfl)
            refine append_str Go.Proofs.Tryz.underlying39 Go.Proofs.Tryz.underlying9 hi' hz hsize hby hrow (by omega) fun q2 c2 w7 hrow2 hu7 hfr7 => ?_
            have hx7 : Ext w w7 := Ext.upd hx hu7 (fun j hj => hlo j hj)
            have hlo7 : ∀ x, blkOf q2 = some x → w.heap.size ≤ x := fun x hx' => by
              rcases hfr7 x hx' with hq | hq
              · exact hlo x hq
              · have := hx.size; omega
            refine al_el fun k1 w8 hk1 hblk1 hx8 hsz8 => ?_
            have hnews : Cells w8 (some ⟨k1, 0, none⟩) [byteVal 10] := .inr ⟨_, rfl, rfl, fun j hj => by
              rw [add_pl]; refine cell_blk hblk1 ?_
              rw [Nat.zero_add, ← Array.getElem?_toList]; exact List.getElem?_eq_getElem hj⟩
            refine append_row (size := 1) (bytes := 1) Go.Proofs.Tryz.underlying39 hi' hz hsize hby rfl (by decide) (hrow2.ext hx8) (m := 1) rfl hnews (by intro u hu; simp only [List.mem_singleton] at hu; rw [hu]; rfl) (by decide) (by unfold maxLen; omega) (by omega) fun q3 c3 w10 hrow3 hu10 hfr10 => ?_
            have hx10 : Ext w w10 := Ext.upd (hx7.trans hx8) hu10 (fun j hj => hlo7 j hj)
            have hlen3 : (out ++ emit cur).length = out.length + (cutS s (Int.toNat (at_ : Int)) (Int.toNat (i : Int))).size + 1 := by
              rw [hem, hcsz, List.length_append, List.length_append, hcurlen]; rfl
            have hrow3' : Row w10 5 1 q3 (out ++ emit cur).length c3 ((out ++ emit cur).map byteVal) := by
              rw [hlen3]
              have e : (out ++ emit cur).map byteVal = out.map byteVal ++ Lib.strCells (cutS s (Int.toNat (at_ : Int)) (Int.toNat (i : Int))) ++ [byteVal 10] := by
                rw [hem, Lib.strCells, hcs]; simp [byteVal]
              rw [e]; exact hrow3
            have := ih (i + 1) (i + 1) (out ++ emit cur) q3 c3 w10 (by omega) (by omega) (by rw [hlen3, hcsz]; omega) (fun hi1 => by
              rw [e1 (by omega)]; congr 1; rw [List.drop_eq_nil_of_le]; rw [List.length_take]; omega) (fun hi1 => e2 (by omega)) hrow3' (fun x hx' => by
              rcases hfr10 x hx' with hq | hq
              · exact hlo7 x hq
              · have := (hx7.trans hx8).size; omega) hx10
            rw [hlen3] at this
            exact this
      · rw [iGt_f] at hg
        have : cur = [] := List.eq_nil_of_length_eq_zero (by omega)
        rw [this]; rfl
    refine cnd_i (fun hg => ?_) (fun hg => ?_)
    · rw [iLt_t, lenN_el] at hg
      have hil : i < s.data.toList.length := by omega
      have hci := List.getElem?_eq_getElem hil
      have hdr : s.data.toList.drop i = s.data.toList[i] :: s.data.toList.drop (i + 1) := List.drop_eq_getElem_cons hil
      refine ⟨by unfold inB; omega, ?_⟩
      rw [bt_at hci]
      by_cases h10 : s.data.toList[i] = 10
      · have : iNe ((s.data.toList[i].toNat : Nat) : Int) 10 = false := by rw [iNe_f, h10]; rfl
        rw [this]
        refine ends (fun _ => ?_) (fun hq => by omega)
        rw [h1', hdr]; conv => lhs; unfold bareF
        rw [if_pos h10]
      · have : iNe ((s.data.toList[i].toNat : Nat) : Int) 10 = true := by
          rw [iNe_t]; intro hq; apply h10; apply UInt8.toNat_inj.1; show s.data.toList[i].toNat = 10; omega
        rw [this]
        refine hK1 _ _ fun _ => if_t rfl ?_
        refine ih (i + 1) at_ out q c w1 (by omega) (by omega) hout (fun _ => ?_) (fun hq => by omega) hrow hlo hx
        rw [h1', hdr]; conv => lhs; unfold bareF
        rw [if_neg h10]
        congr 1
        have : s.data.toList.take (i + 1) = s.data.toList.take i ++ [s.data.toList[i]] := (List.take_append_getElem hil).symm
        rw [this, List.drop_append_of_le_length (by rw [List.length_take]; omega)]
    · rw [iLt_f, lenN_el] at hg
      have hd : s.data.toList.drop i = [] := List.drop_eq_nil_of_le (by omega)
      refine ends (fun hq => by omega) (fun _ => ?_)
      rw [h1', hd]; rfl
end Go.Proofs.YtgfbkmclekafbaaGreatDoor

/- Parse, as a plain function of the text. -/
set_option maxRecDepth 100000
namespace Go.Proofs.YtgfbkmclekafbaaGreatDoor
open Go Go.Vc

def linesOf (s : ByteArray) : List ByteArray := Lib.splitB (bs [10]) 0 (Lib.countB s (bs [10])) s
def zeroPlan : PlanR := ⟨0, 0, 0, [], 0, 0, 0, 0⟩
def skipped (x : ByteArray) : Bool := match x.data.toList with
  | [] => true
  | c :: _ => c == 35
/-- line by line: the reader behind the last one, or the fault and its line's number -/
def parseGo : RS → Nat → List ByteArray → Except (Int × Nat) RS
  | r, at_, [] => if r.began = true then .ok r else .error (210, at_)
  | r, at_, x :: rest => if skipped x = true then parseGo r (at_ + 1) rest else match lineSpec r (blanks x) with
    | .ok r' => parseGo r' (at_ + 1) rest
    | .error e => .error (e, at_ + 1)
structure ParseR where
  p : PlanR
  steps : List St
  at_ : Nat
  e : Int
def parseSpec (s : ByteArray) : ParseR :=
  if 262144 < s.size then ⟨zeroPlan, [], 0, 6⟩ else match parseGo ⟨zeroPlan, [], false⟩ 0 (linesOf s) with
    | .ok r => ⟨r.p, r.steps, 0, 0⟩
    | .error (e, at_) => ⟨zeroPlan, [], at_, e⟩
end Go.Proofs.YtgfbkmclekafbaaGreatDoor

/- What Print writes is read back: numbers, keys, floats. -/
set_option maxRecDepth 100000
namespace Go.Proofs.YtgfbkmclekafbaaGreatDoor
open Go Go.Vc

theorem num_itoa {n : Int} (h0 : -9223372036854775808 ≤ n) (h1 : n ≤ 9223372036854775807) : num? (Lib.itoa n) = some n := by
  unfold num?; rw [atoi_itoa h0 h1]; simp
theorem key_dec {n : Nat} (h : n < 18446744073709551616) : key? (Lib.decDigits n) = some n := by
  unfold key?; rw [mag_dec h]; simp
theorem dig16_ok {d : Nat} (h : d < 16) : digVal (dig16 d) = d ∧ hexSet.contains (dig16 d) = true := by
  have : ∀ d : Fin 16, digVal (dig16 d.val) = d.val ∧ hexSet.contains (dig16 d.val) = true := by decide
  exact this ⟨d, h⟩
theorem hexFill_ok : ∀ (k u : Nat), hexFrom 0 (hexFill k u) = u % 16 ^ k ∧ (hexFill k u).all (hexSet.contains ·) = true
  | 0, u => by simp [hexFill, hexFrom, Nat.mod_one]
  | k + 1, u => by
    obtain ⟨h1, h2⟩ := hexFill_ok k (u / 16)
    obtain ⟨d1, d2⟩ := dig16_ok (d := u % 16) (by omega)
    refine ⟨?_, ?_⟩
    · have : hexFrom 0 (hexFill (k + 1) u) = hexFrom 0 (hexFill k (u / 16)) * 16 + digVal (dig16 (u % 16)) := by
        rw [hexFill, hexFrom, List.foldl_append]; rfl
      rw [this, h1, d1, Nat.pow_succ, Nat.mul_comm (16 ^ k) 16, Nat.mod_mul]
      omega
    · rw [hexFill, List.all_append, h2, List.all_cons, d2]; rfl
theorem float_hex {n : Nat} (h : n < 18446744073709551616) : float? (hexText n) = some n := by
  obtain ⟨h1, h2⟩ := hexFill_ok 16 n
  unfold float?
  rw [if_pos ⟨hexFill_len 16 n, h2⟩, hexText, h1, Nat.mod_eq_of_lt (by simpa using h)]
/-- the arguments as they are printed -/
def argsList : St → List UInt8 → List (List UInt8)
  | _, [] => []
  | t, c :: r => argText t c :: argsList (clearArg t c) r
theorem setArg_text {s t : St} (ht : t.wf) {c : UInt8} (hc : c = 110 ∨ c = 107 ∨ c = 117 ∨ c = 118) :
    setArg s c (argText t c) = some (if c = 110 then { s with node := t.node } else if c = 107 then { s with n := t.n } else if c = 117 then { s with key := t.key } else { s with val := t.val }) := by
  rcases hc with rfl | rfl | rfl | rfl
  · simp [setArg, argText, num_itoa ht.n0 ht.n1]
  · simp [setArg, argText, num_itoa ht.m0 ht.m1]
  · simp [setArg, argText, key_dec ht.k]
  · simp [setArg, argText, float_hex ht.v]
theorem kind_word {k : Nat} (h1 : 1 ≤ k) (h2 : k ≤ 11) : kindIn (wordAt k) 12 0 = some k := by
  have : ∀ k : Fin 12, 1 ≤ k.val → kindIn (wordAt k.val) 12 0 = some k.val := by decide
  exact this ⟨k, by omega⟩ h1
theorem argsList_len : ∀ (l : List UInt8) (t : St), (argsList t l).length = l.length
  | [], t => rfl
  | c :: r, t => by rw [argsList, List.length_cons, argsList_len r]; rfl
end Go.Proofs.YtgfbkmclekafbaaGreatDoor
