/- What the numbers' readers do: must, ParseInt, number. -/
import Derived.Test.YtgfbkmclekafbaaGreatDoorQReadA
import Derived.Test.YtgfbkmclekafbaaGreatDoorQReadB
import Derived.Test.YtgfbkmclekafbaaGreatDoorQReadC
import Derived.Test.YtgfbkmclekafbaaGreatDoorQBase
import Derived.Test.YtgfbkmclekafbaaGreatDoorQShelf
import Derived.Test.YtgfbkmclekafbaaGreatDoorQRd2
import Derived.Lib.IfaceNeq
import Derived.Test.YtgfbkmclekafbaaGreatDoorQReadD
import Derived.Test.YtgfbkmclekafbaaGreatDoorQRd3
set_option linter.unusedVariables false
set_option linter.unusedSimpArgs false
set_option linter.unnecessarySimpa false
set_option maxRecDepth 100000
namespace Go.Proofs.YtgfbkmclekafbaaGreatDoor
open Go Go.Vc

/-- what the world holds of the library's variables -/
structure Lw (w : World) : Prop where
  tab : Lib.TabIs P w "internal/strconv.uint64pow10" .u64 Lib.pow10Tab
  syn : ∃ ev, w.cell? ⟨g_strconv_ErrSyntax, 0, none⟩ = some ev ∧ (ev = .nilIface ∨ ∃ te pe, ev = .iface te pe)
  rng : ∃ ev, w.cell? ⟨g_strconv_ErrRange, 0, none⟩ = some ev ∧ (ev = .nilIface ∨ ∃ te pe, ev = .iface te pe)
  cut : ∃ m, w.cell? ⟨g_bytealg_MaxLen, 0, none⟩ = some (.int .i64 m)
  tz : w.cell? ⟨g_bits_deBruijn64tab, 15, none⟩ = some (.int .u8 4)
  size : 9 ≤ w.heap.size
theorem Lw.upd {S : Nat → Prop} {w w' : World} (h : Lw w) (hu : Upd S w w') (hS : ∀ i, i < 9 → ¬ S i) : Lw w' := by
  have hsz := h.size
  refine ⟨?_, ?_, ?_, ?_, hu.cell h.tz (hS _ (by decide)), Nat.le_trans h.size hu.size⟩
  · have ht := h.tab
    unfold Lib.TabIs World.var? at ht ⊢
    have hg : P.globalNamed "internal/strconv.uint64pow10" = some g_strconv_uint64pow10 := by kernel_rfl
    rw [hg] at ht ⊢
    simp only [Option.bind_some] at ht ⊢
    rw [hu.block g_strconv_uint64pow10 (by show 1 < _; omega) (hS _ (by decide))]; exact ht
  · obtain ⟨ev, h1, h2⟩ := h.syn; exact ⟨ev, hu.cell h1 (hS _ (by decide)), h2⟩
  · obtain ⟨ev, h1, h2⟩ := h.rng; exact ⟨ev, hu.cell h1 (hS _ (by decide)), h2⟩
  · obtain ⟨ev, h1⟩ := h.cut; exact ⟨ev, hu.cell h1 (hS _ (by decide))⟩
theorem Lw.ext {w w' : World} (h : Lw w) (hu : Ext w w') : Lw w' := h.upd hu fun _ _ h => h

/-- what a reading gives up with -/
def fault (e : Int) : List PanicEntry := [{ v := .iface t_script_fault (.agg #[.int .i64 e]), recovered := false }]
theorem must_ok {e : Int} {w : World} {K : Value → World → Prop} {X : List PanicEntry → World → Prop} (h : K (.tuple #[]) w) : call P n_script_must [.bool true, .int .i64 e] w K X := by
  refine script_must.call ?_
  unfold script_must.F
  exact if_f rfl h
theorem must_no {e : Int} {w : World} {K : Value → World → Prop} {X : List PanicEntry → World → Prop} (h : X (fault e) w) : call P n_script_must [.bool false, .int .i64 e] w K X := by
  refine script_must.call ?_
  unfold script_must.F
  refine if_t rfl ?_
  have hr : (Instr.panic (.iface t_script_fault (.agg #[.int .i64 e]))).run P w = .halt (.panic (.iface t_script_fault (.agg #[.int .i64 e]))) w := by simp [Instr.panic]
  unfold runV; rw [hr]; exact h
theorem must_el {b : Bool} {e : Int} {w : World} {K : Value → World → Prop} {X : List PanicEntry → World → Prop} (h1 : b = true → K (.tuple #[]) w) (h2 : b = false → X (fault e) w) : call P n_script_must [.bool b, .int .i64 e] w K X := by
  cases b
  · exact must_no (h2 rfl)
  · exact must_ok (h1 rfl)

theorem itoa_el {n : Int} {w : World} {K : Value → World → Prop} {X : List PanicEntry → World → Prop} (hw : Lw w) (h0 : -9223372036854775808 ≤ n) (h1 : n ≤ 9223372036854775807)
    (h : ∀ w', Ext w w' → K (.string ⟨(Lib.itoa n).toArray⟩) w') : call P n_strconv_Itoa [.int .i64 n] w K X := by
  refine call_calls (Tryz.strconv_Itoa n h0 h1 w hw.tab) ?_
  rintro e w' ⟨rfl, k, os, rfl⟩
  exact h _ Ext.grow
theorem formatInt_el {n : Int} {w : World} {K : Value → World → Prop} {X : List PanicEntry → World → Prop} (hw : Lw w) (h0 : -9223372036854775808 ≤ n) (h1 : n ≤ 9223372036854775807)
    (h : ∀ w', Ext w w' → K (.string ⟨(Lib.itoa n).toArray⟩) w') : call P n_strconv_FormatInt [.int .i64 n, .int .i64 10] w K X := by
  refine call_calls (Tryz.strconv_FormatInt_10 n h0 h1 w hw.tab) ?_
  rintro e w' ⟨rfl, k, os, rfl⟩
  exact h _ Ext.grow

theorem uintParse_el {s : ByteArray} {w : World} {K : Value → World → Prop} {X : List PanicEntry → World → Prop} (hs : s.size ≤ 9223372036854775806)
    (h : ∀ w', Ext w w' → K (Lib.uintTuple t_strconv_Error (Lib.parseMag s.data.toList)) w') : call P n_strconv_ParseUint_ [.string s, .int .i64 10, .int .i64 64] w K X := by
  by_cases hz : s.size = 0
  · have hs0 : s = ⟨#[]⟩ := by cases s with | mk d => simp only [ByteArray.mk.injEq]; exact Array.eq_empty_of_size_eq_zero hz
    subst hs0
    refine call_calls (Tryz.internal_strconv_ParseUint_empty 10 64 w) ?_
    rintro e w' ⟨rfl, rfl⟩
    exact h _ (Upd.refl _ _)
  · refine call_calls (Tryz.internal_strconv_ParseUint_10_b64 s hz hs w) ?_
    rintro e w' ⟨rfl, rfl⟩
    have hne : s.data.toList ≠ [] := by
      intro he; apply hz
      have : s.data.toList.length = 0 := by rw [he]; rfl
      simpa using this
    have := h _ (Ext.bytesWorld (e := 5) (s := s))
    unfold Lib.parseMag at this
    rw [if_neg hne] at this
    exact this

/-- an error of the inner parser, told to the caller -/
theorem toError_el {fn s : ByteArray} {n : Int} {w : World} {K : Value → World → Prop} {X : List PanicEntry → World → Prop} (hw : Lw w) (hs : s.size ≤ 281474976710656) (hn : n = 1 ∨ n = 2)
    (h : ∀ t v w', Ext w w' → K (.iface t v) w') : call P n_strconv_toError [.string fn, .string s, .int .i64 10, .int .i64 64, .iface t_strconv_Error (.int .i64 n)] w K X := by
  have heq : ∀ (a b : Int) (x y : Operand) (w : World), (do eqGuard .eql t_error x y (.iface t_strconv_Error (.int .i64 a)) (.iface t_strconv_Error (.int .i64 b)); binOp .eql t_error (.iface t_strconv_Error (.int .i64 a)) (.iface t_strconv_Error (.int .i64 b)) : Sem Value).run P w = .ok (.bool (a == b)) w := by
    intro a b x y w
    rw [Sem.run_bind]
    have hg : (eqGuard .eql t_error x y (.iface t_strconv_Error (.int .i64 a)) (.iface t_strconv_Error (.int .i64 b))).run P w = .ok () w := by simp [eqGuard]
    rw [hg, Result.andThen_ok]
    have hc : (P.info? t_strconv_Error).map (·.comparable) = some true := by kernel_rfl
    exact Lib.run_eql_iface_int (P := P) w a b Go.Proofs.Tryz.underlying54 hc Go.Proofs.Tryz.underlying156
  refine strconv_toError.call ?_
  unfold strconv_toError.F
  rcases hn with hn | hn <;> subst hn
  · refine runV_ok (heq _ _ _ _ _) ?_
    simp only [asB_at]
    refine if_f (by decide) ?_
    refine runV_ok (heq _ _ _ _ _) ?_
    simp only [asB_at]
    refine if_t (by decide) ?_
    obtain ⟨ev, h1, h2⟩ := hw.rng
    refine call_calls (Tryz.strconv_rangeError fn s ev w hs h1 h2) ?_
    rintro e w' ⟨N, rfl, _, _, hb⟩
    exact h _ _ _ (Ext.of_below hb (Nat.le_refl _))
  · refine runV_ok (heq _ _ _ _ _) ?_
    simp only [asB_at]
    refine if_t (by decide) ?_
    obtain ⟨ev, h1, h2⟩ := hw.syn
    refine call_calls (Tryz.strconv_syntaxError fn s ev w hs h1 h2) ?_
    rintro e w' ⟨N, rfl, _, _, hb⟩
    exact h _ _ _ (Ext.of_below hb (Nat.le_refl _))

/-- what the inner ParseInt makes of the number behind the sign -/
def intFin (neg : Bool) : Lib.NumEnd Nat → Lib.NumEnd Int
  | Lib.NumEnd.syntax => Lib.NumEnd.syntax
  | .range => .range
  | .ok u => if neg = false ∧ 9223372036854775808 ≤ u then .range else if neg = true ∧ 9223372036854775808 < u then .range else .ok (if neg = true then -(u : Int) else u)
def intVal (neg : Bool) : Lib.NumEnd Int → Value
  | .ok n => .tuple #[.int .i64 n, .nilIface]
  | Lib.NumEnd.syntax => .tuple #[.int .i64 0, .iface t_strconv_Error (.int .i64 2)]
  | .range => .tuple #[.int .i64 (if neg = true then -9223372036854775808 else 9223372036854775807), .iface t_strconv_Error (.int .i64 1)]
theorem cut1 (s : ByteArray) : (cutS s 1 s.size).data.toList = s.data.toList.tail := by
  simp only [cutS, ByteArray.data_extract, Array.toList_extract]
  cases h : s.data.toList with
  | nil => simp
  | cons c r =>
    have : s.size = r.length + 1 := by have := congrArg List.length h; simpa using this
    simp [this, List.extract]
theorem bt0 {s : ByteArray} {c : UInt8} {r : List UInt8} (h : s.data.toList = c :: r) : bt s 0 = (c.toNat : Int) := by simp [bt, h]

theorem intParse_el {s : ByteArray} {w : World} {K : Value → World → Prop} {X : List PanicEntry → World → Prop} (hs : s.size ≤ 9223372036854775806)
    (h : ∀ neg w', Ext w w' → K (intVal neg (Lib.atoiAll s.data.toList)) w') : call P n_strconv_ParseInt_ [.string s, .int .i64 10, .int .i64 64] w K X := by
  refine strconv_ParseInt_.call ?_
  unfold strconv_ParseInt_.F
  refine cnd_i (fun h0 => ?_) (fun h0 => ?_)
  · simp only [sEq_t] at h0
    subst h0
    exact h true _ (Upd.refl _ _)
  simp only [sEq_f] at h0
  obtain ⟨c, r, hcr⟩ : ∃ c r, s.data.toList = c :: r := by
    cases hl : s.data.toList with
    | nil =>
      exfalso; apply h0
      rw [ba_eq, ByteArray.toList_eq, hl, bs, ByteArray.toList_mk]
    | cons c r => exact ⟨c, r, rfl⟩
  have hsz : s.size = r.length + 1 := by have := congrArg List.length hcr; simpa using this
  intro K1 hK1
  have neqr : ∀ (a b : Int) (x y : Operand) (w : World), (do eqGuard .neq t_error x y (.iface t_strconv_Error (.int .i64 a)) (.iface t_strconv_Error (.int .i64 b)); binOp .neq t_error (.iface t_strconv_Error (.int .i64 a)) (.iface t_strconv_Error (.int .i64 b)) : Sem Value).run P w = .ok (.bool (!(a == b))) w := by
    intro a b x y w
    rw [Sem.run_bind]
    have hg : (eqGuard .neq t_error x y (.iface t_strconv_Error (.int .i64 a)) (.iface t_strconv_Error (.int .i64 b))).run P w = .ok () w := by simp [eqGuard]
    rw [hg, Result.andThen_ok]
    have hc : (P.info? t_strconv_Error).map (·.comparable) = some true := by kernel_rfl
    exact Lib.run_neq_iface_int (P := P) w a b Go.Proofs.Tryz.underlying54 hc Go.Proofs.Tryz.underlying156
  have e63 : IntKind.wrap .u64 (iSub .i64 64 1) = 63 := by decide
  have shl : iShl .u64 1 63 = 9223372036854775808 := by decide
  have sub : IntKind.wrap .i64 (iSub .u64 9223372036854775808 1) = 9223372036854775807 := by decide
  have neg63 : iSub .i64 0 (IntKind.wrap .i64 9223372036854775808) = -9223372036854775808 := by decide
  have key : ∀ (s1 : ByteArray) (neg : Bool), s1.size ≤ 9223372036854775806 → (∀ w', Ext w w' → K (intVal neg (intFin neg (Lib.parseMag s1.data.toList))) w') → K1 [.string s1, .bool neg] w := by
    intro s1 neg hs1 hK
    refine hK1 s1 neg w (fun _ => ?_)
    refine uintParse_el hs1 fun w2 hx2 => ?_
    -- behind the first error's test
    have tail : ∀ (n1 : Int) (K3 : List Value → World → Prop), True := fun _ _ => trivial
    rcases hm : Lib.parseMag s1.data.toList with u | _ | _
    rotate_left
    · simp only [Lib.uintTuple]
      refine ⟨rfl, fun K2 hK2 => ?_⟩
      refine if_t rfl (runV_ok (neqr _ _ _ _ _) ?_)
      simp only [asB_at]
      refine hK2 _ _ (fun _ => if_t (by decide) ?_)
      have := hK w2 hx2
      rw [hm] at this; exact this
    · simp only [Lib.uintTuple]
      refine ⟨rfl, fun K2 hK2 => ?_⟩
      refine if_t rfl (runV_ok (neqr _ _ _ _ _) ?_)
      simp only [asB_at]
      refine hK2 _ _ (fun _ => if_f (by decide) ?_)
      intro K3 hK3
      refine if_f (by decide) (hK3 _ _ fun _ => ?_)
      simp only [e63, shl, sub, neg63]
      refine ⟨by unfold nng; decide, fun K4 hK4 => ?_⟩
      have hf := hK w2 hx2
      rw [hm] at hf
      cases neg
      · exact if_t rfl (hK4 _ _ fun _ => if_t (by decide) hf)
      · refine if_f rfl (hK4 _ _ fun _ => if_f rfl ?_)
        intro K5 hK5
        exact if_t rfl (hK5 _ _ fun _ => if_t (by decide) hf)
    · have hu : u < 18446744073709551616 := Lib.parseMag_lt hm
      simp only [Lib.uintTuple]
      refine ⟨rfl, fun K2 hK2 => ?_⟩
      refine if_f rfl (hK2 _ _ fun _ => if_f rfl ?_)
      intro K3 hK3
      refine if_f (by decide) (hK3 _ _ fun _ => ?_)
      simp only [e63, shl, sub, neg63]
      refine ⟨by unfold nng; decide, fun K4 hK4 => ?_⟩
      have hf := hK w2 hx2
      rw [hm] at hf
      cases neg
      · refine if_t rfl (hK4 _ _ fun _ => cnd_i (fun hg => ?_) (fun hg => ?_))
        · simp only [iGe_t] at hg
          have h1 : (9223372036854775808 : Nat) ≤ u := by omega
          simpa [intFin, intVal, h1] using hf
        · simp only [iGe_f] at hg
          intro K5 hK5
          refine if_f rfl (hK5 _ _ fun _ => if_f rfl (if_f rfl ?_))
          rw [wrap_i64 (by omega) (by omega)]
          have h1 : ¬ (9223372036854775808 : Nat) ≤ u := by omega
          simpa [intFin, intVal, h1] using hf
      · refine if_f rfl (hK4 _ _ fun _ => if_f rfl ?_)
        intro K5 hK5
        refine if_t rfl (hK5 _ _ fun _ => cnd_i (fun hg => ?_) (fun hg => if_t rfl ?_))
        · simp only [iGt_t] at hg
          have h1 : (9223372036854775808 : Nat) < u := by omega
          simpa [intFin, intVal, h1] using hf
        · simp only [iGt_f] at hg
          have h1 : ¬ (9223372036854775808 : Nat) < u := by omega
          have e : iSub .i64 0 (IntKind.wrap .i64 (u : Int)) = -(u : Int) := by
            unfold iSub; rw [IntKind.wrap_i64, IntKind.wrap_i64]; omega
          rw [e]
          simpa [intFin, intVal, h1] using hf
  have hat : ∀ neg, (neg = true ↔ c.toNat = 45) → intFin neg (Lib.parseMag (if c.toNat = 43 ∨ c.toNat = 45 then r else c :: r)) = Lib.atoiAll s.data.toList := by
    intro neg hn
    rw [hcr]; unfold Lib.atoiAll
    simp only
    rcases hm : Lib.parseMag (if c.toNat = 43 ∨ c.toNat = 45 then r else c :: r) with u | _ | _
    rotate_left
    · rfl
    · rfl
    · simp only [intFin]
      by_cases h45 : c.toNat = 45
      · have : neg = true := hn.2 h45
        subst this; simp [h45]
      · have : neg = false := by
          cases neg with
          | false => rfl
          | true => exact absurd (hn.1 rfl) h45
        subst this; simp [h45]
  have hcut : (cutS s (Int.toNat 1) s.size).data.toList = r := by
    have := cut1 s
    rw [hcr] at this; exact this
  have hcsz : (cutS s (Int.toNat 1) s.size).size = r.length := by
    have := congrArg List.length hcut; simpa using this
  refine ⟨by unfold inB; omega, ?_⟩
  rw [bt0 hcr]
  refine cnd_i (fun hp => ?_) (fun hp => ?_)
  · simp only [iEq_t] at hp
    refine ⟨by unfold inC; omega, key _ _ (by omega) fun w' hx => ?_⟩
    rw [hcut]
    have := hat false (by simp; omega)
    rw [if_pos (by omega)] at this
    rw [this]; exact h _ _ hx
  · simp only [iEq_f] at hp
    refine cnd_i (fun hp' => ?_) (fun hp' => ?_)
    · simp only [iEq_t] at hp'
      refine ⟨by unfold inC; omega, key _ _ (by omega) fun w' hx => ?_⟩
      rw [hcut]
      have := hat true (by simp; omega)
      rw [if_pos (by omega)] at this
      rw [this]; exact h _ _ hx
    · simp only [iEq_f] at hp'
      refine key _ _ hs fun w' hx => ?_
      have := hat false (by simp; omega)
      rw [if_neg (by omega), ← hcr] at this
      rw [this]; exact h _ _ hx
end Go.Proofs.YtgfbkmclekafbaaGreatDoor

/- number and key: a decimal numeral in its one form. -/
set_option maxRecDepth 100000
namespace Go.Proofs.YtgfbkmclekafbaaGreatDoor
open Go Go.Vc

theorem atoi_range {l : List UInt8} {n : Int} (h : Lib.atoiAll l = .ok n) : -9223372036854775808 ≤ n ∧ n ≤ 9223372036854775807 := by
  unfold Lib.atoiAll at h
  split at h
  · cases h
  · rename_i c r
    simp only at h
    split at h
    · cases h
    · cases h
    · rename_i u hu
      split at h
      · cases h
      · split at h
        · cases h
        · split at h <;> (injection h with h; subst h; omega)

/-- ParseInt(s, 10, 64) -/
theorem parseInt_el {s : ByteArray} {w : World} {K : Value → World → Prop} {X : List PanicEntry → World → Prop} (hw : Lw w) (hs : s.size ≤ 281474976710656)
    (h1 : ∀ n w', Lib.atoiAll s.data.toList = .ok n → Ext w w' → K (.tuple #[.int .i64 n, .nilIface]) w')
    (h2 : ∀ n t v w', (∀ m, Lib.atoiAll s.data.toList ≠ .ok m) → Ext w w' → K (.tuple #[.int .i64 n, .iface t v]) w') :
    call P n_strconv_ParseInt [.string s, .int .i64 10, .int .i64 64] w K X := by
  refine strconv_ParseInt.call ?_
  unfold strconv_ParseInt.F
  refine intParse_el (by omega) fun neg w1 hx1 => ?_
  rcases hm : Lib.atoiAll s.data.toList with n | _ | _
  · refine ⟨rfl, if_f rfl ?_⟩
    exact h1 n w1 hm hx1
  · refine ⟨rfl, if_t rfl ?_⟩
    refine toError_el (hw.ext hx1) hs (.inr rfl) fun t v w2 hx2 => ?_
    exact h2 _ t v w2 (by rw [hm]; intro m hc; cases hc) (hx1.trans hx2)
  · refine ⟨rfl, if_t rfl ?_⟩
    refine toError_el (hw.ext hx1) hs (.inl rfl) fun t v w2 hx2 => ?_
    exact h2 _ t v w2 (by rw [hm]; intro m hc; cases hc) (hx1.trans hx2)

/-- a number in its one form -/
def num? (l : List UInt8) : Option Int := match Lib.atoiAll l with
  | .ok n => if Lib.itoa n = l then some n else none
  | _ => none
theorem mk_data (s : ByteArray) (l : List UInt8) : (⟨l.toArray⟩ : ByteArray) = s ↔ l = s.data.toList := by
  rw [ba_eq, ByteArray.toList_mk, ByteArray.toList_eq]
theorem number_el {s : ByteArray} {w : World} {K : Value → World → Prop} {X : List PanicEntry → World → Prop} (hw : Lw w) (hs : s.size ≤ 281474976710656)
    (h1 : ∀ n w', num? s.data.toList = some n → Ext w w' → K (.int .i64 n) w')
    (h2 : ∀ w', num? s.data.toList = none → Ext w w' → X (fault 211) w') :
    call P n_script_number [.string s] w K X := by
  refine script_number.call ?_
  unfold script_number.F
  refine parseInt_el hw hs (fun n w1 hn hx1 => ?_) (fun n t v w1 hn hx1 => ?_)
  · refine ⟨rfl, fun K1 hK1 => ?_⟩
    refine if_t rfl ?_
    obtain ⟨r1, r2⟩ := atoi_range hn
    refine formatInt_el (hw.ext hx1) r1 r2 fun w2 hx2 => ?_
    refine hK1 _ _ fun _ => ?_
    refine must_el (fun hb => ?_) (fun hb => ?_)
    · rw [sEq_t, mk_data] at hb
      exact h1 n _ (by unfold num?; rw [hn]; simp [hb]) (hx1.trans hx2)
    · rw [sEq_f, mk_data] at hb
      exact h2 _ (by unfold num?; rw [hn]; simp [hb]) (hx1.trans hx2)
  · refine ⟨rfl, fun K1 hK1 => ?_⟩
    refine if_f rfl (hK1 _ _ fun _ => must_no (h2 _ ?_ hx1))
    unfold num?
    split
    · rename_i m hm; exact absurd hm (hn m)
    · rfl

/-- ParseUint(s, 10, 64) -/
theorem parseUint_el {s : ByteArray} {w : World} {K : Value → World → Prop} {X : List PanicEntry → World → Prop} (hw : Lw w) (hs : s.size ≤ 281474976710656)
    (h1 : ∀ (n : Nat) w', Lib.parseMag s.data.toList = .ok n → Ext w w' → K (.tuple #[.int .u64 n, .nilIface]) w')
    (h2 : ∀ n t v w', (∀ m, Lib.parseMag s.data.toList ≠ .ok m) → Ext w w' → K (.tuple #[.int .u64 n, .iface t v]) w') :
    call P n_strconv_ParseUint [.string s, .int .i64 10, .int .i64 64] w K X := by
  refine strconv_ParseUint.call ?_
  unfold strconv_ParseUint.F
  refine uintParse_el (by omega) fun w1 hx1 => ?_
  rcases hm : Lib.parseMag s.data.toList with n | _ | _
  · refine ⟨rfl, if_f rfl ?_⟩
    exact h1 n w1 hm hx1
  · refine ⟨rfl, if_t rfl ?_⟩
    refine toError_el (hw.ext hx1) hs (.inr rfl) fun t v w2 hx2 => ?_
    exact h2 _ t v w2 (by rw [hm]; intro m hc; cases hc) (hx1.trans hx2)
  · refine ⟨rfl, if_t rfl ?_⟩
    refine toError_el (hw.ext hx1) hs (.inl rfl) fun t v w2 hx2 => ?_
    exact h2 _ t v w2 (by rw [hm]; intro m hc; cases hc) (hx1.trans hx2)

theorem zeros24_cell {w : World} {g : Nat} {T : TypeId} (h : w.heap[g]? = some (.cells Lib.zeros24 T (0, 0))) {nd : Nat} (hnd : nd ≤ 24) :
    Sort.Holds (fun (b : UInt8) => Value.int .u8 (b.toNat : Int)) w g 0 (Array.replicate nd (0 : UInt8)) := by
  intro j hj
  have hj' : j < 24 := by simp at hj; omega
  rw [Nat.zero_add]
  refine ⟨?_, ?_⟩
  · have hv : (Lib.zeros24)[j]? = some (.int .u8 0) := Lib.zeros24_at j hj'
    rw [cell_blk h hv]
    have : (Array.replicate nd (0 : UInt8))[j]! = 0 := by simp at hj; simp [hj]
    rw [this]; rfl
  · simp [World.frozen?, h]

/-- FormatUint(n, 10) -/
theorem formatUint_el {n : Nat} {w : World} {K : Value → World → Prop} {X : List PanicEntry → World → Prop} (hw : Lw w) (hn : n < 18446744073709551616)
    (h : ∀ w', Ext w w' → K (.string ⟨(Lib.decDigits n).toArray⟩) w') : call P n_strconv_FormatUint [.int .u64 n, .int .i64 10] w K X := by
  refine strconv_FormatUint.call ?_
  unfold strconv_FormatUint.F
  refine strconv_FormatUint_.call ?_
  unfold strconv_FormatUint_.F
  refine if_t (by decide) (cnd_i (fun hl => ?_) (fun hl => ?_))
  · simp only [iLt_t] at hl
    rw [wrap_i64 (by omega) (by omega)]
    refine call_calls (Tryz.internal_strconv_small n (by omega) w) ?_
    rintro e w' ⟨rfl, rfl⟩
    exact h _ (Upd.refl _ _)
  · simp only [iLt_f] at hl
    refine al_el fun b w1 hb hblk hx1 hsz1 => ?_
    have hw1 := hw.ext hx1
    refine call_calls (Tryz.internal_strconv_numDigits n (by omega) hn w1 hw1.tab) ?_
    rintro e w' ⟨rfl, hww⟩
    rw [hww]
    have hnd20 : Lib.nDigits n ≤ 20 := by have := Lib.numDigits_eq n (by omega) hn; split at this <;> omega
    refine ⟨by unfold inC; omega, ?_⟩
    simp only [sb, Nat.sub_zero, Int.toNat_natCast]
    have hz : ∃ T, w1.heap[b]? = some (.cells Lib.zeros24 T (0, 0)) := ⟨_, hblk⟩
    obtain ⟨T, hz⟩ := hz
    have hH := zeros24_cell hz (nd := Lib.nDigits n) (by omega)
    have hfmt := Tryz.internal_strconv_formatBase10 b 0 24 n (Array.replicate (Lib.nDigits n) 0) w1 hH (by rw [Array.size_replicate]; exact Lib.lt_pow_nDigits n) hn (by rw [Array.size_replicate]; omega)
    rw [Array.size_replicate] at hfmt
    refine call_calls hfmt ?_
    rintro e w' ⟨rfl, k, v', dk, rfl, hF⟩
    have hx3 : Ext w ((Sort.putRow (fun (b : UInt8) => Value.int .u8 (b.toNat : Int)) w1 b 0 dk).drewN k) := by
      refine Upd.trans ?_ Ext.drewN
      refine ⟨hx1.os, hx1.tape, hx1.output, ?_, fun i hi hn => ?_⟩
      · show _ ≤ (w1.heap.modify b _).size
        rw [Array.size_modify]; exact hx1.size
      · show (w1.heap.modify b _)[i]? = _
        rw [Array.getElem?_modify, if_neg (by omega)]
        exact hx1.block i hi hn
    refine ⟨by unfold inC; omega, ?_⟩
    refine conv_str (l := Lib.decDigits n) Go.Proofs.Tryz.underlying39 Go.Proofs.Tryz.underlying5 Go.Proofs.Tryz.underlying9 (by rw [Lib.decDigits_length]) (.inr ⟨_, rfl, rfl, fun i hi => ?_⟩) (h _ hx3)
    have hi' : i < (Lib.decDigits n).length := by simpa using hi
    rw [add_pl, World.cell?_drewN]
    have := Sort.cell?_putRow (fun (b : UInt8) => Value.int .u8 (b.toNat : Int)) w1 b 0 _ dk hH (by rw [hF.size, Array.size_replicate]) i (by rw [hF.size]; rw [Lib.decDigits_length] at hi'; exact hi')
    rw [this]
    simp only [List.getElem_map, byteVal, Lib.row_is_numeral hF i hi']

def key? (l : List UInt8) : Option Nat := match Lib.parseMag l with
  | .ok n => if Lib.decDigits n = l then some n else none
  | _ => none
theorem key_el {s : ByteArray} {w : World} {K : Value → World → Prop} {X : List PanicEntry → World → Prop} (hw : Lw w) (hs : s.size ≤ 281474976710656)
    (h1 : ∀ (n : Nat) w', key? s.data.toList = some n → Ext w w' → K (.int .u64 n) w')
    (h2 : ∀ w', key? s.data.toList = none → Ext w w' → X (fault 211) w') :
    call P n_script_key [.string s] w K X := by
  refine script_key.call ?_
  unfold script_key.F
  refine parseUint_el hw hs (fun n w1 hn hx1 => ?_) (fun n t v w1 hn hx1 => ?_)
  · refine ⟨rfl, fun K1 hK1 => ?_⟩
    refine if_t rfl ?_
    refine formatUint_el (hw.ext hx1) (Lib.parseMag_lt hn) fun w2 hx2 => ?_
    refine hK1 _ _ fun _ => ?_
    refine must_el (fun hb => ?_) (fun hb => ?_)
    · rw [sEq_t, mk_data] at hb
      exact h1 n _ (by unfold key?; rw [hn]; simp [hb]) (hx1.trans hx2)
    · rw [sEq_f, mk_data] at hb
      exact h2 _ (by unfold key?; rw [hn]; simp [hb]) (hx1.trans hx2)
  · refine ⟨rfl, fun K1 hK1 => ?_⟩
    refine if_f rfl (hK1 _ _ fun _ => must_no (h2 _ ?_ hx1))
    unfold key?
    split
    · rename_i m hm; exact absurd hm (hn m)
    · rfl
end Go.Proofs.YtgfbkmclekafbaaGreatDoor

/- Trim at the sixteen digits. -/
set_option maxRecDepth 100000
namespace Go.Proofs.YtgfbkmclekafbaaGreatDoor
open Go Go.Vc

def hexSet : List UInt8 := [48, 49, 50, 51, 52, 53, 54, 55, 56, 57, 97, 98, 99, 100, 101, 102]
theorem contains_el {b : Nat} {T : TypeId} {s : ByteArray} {n : Int} {w : World} {K : Value → World → Prop} {X : List PanicEntry → World → Prop} (hb : w.heap[b]? = some (.cells (Lib.setCells hexSet) T (0, 0)))
    {x : UInt8} (hx : bt s n = (x.toNat : Int)) (h : K (.bool (hexSet.contains x)) w) : call P n_strings_asciiSet_contains [.pointer (some ⟨b, 0, none⟩), .int .u8 (bt s n)] w K X := by
  rw [hx]
  refine call_calls (Tryz.asciiSet_contains b x (hexSet.contains x) w (cell_blk hb (Lib.setCells_at _ _))) ?_
  rintro e w' ⟨rfl, hw⟩
  rw [hw]; exact h
theorem bt_at {s : ByteArray} {i : Nat} {x : UInt8} (h : s.data.toList[i]? = some x) : bt s (i : Int) = (x.toNat : Int) := by
  simp [bt, List.getD_eq_getElem?_getD, h]
theorem size_len (s : ByteArray) : s.size = s.data.toList.length := by simp
theorem cutS_data (s : ByteArray) (l h : Nat) : (cutS s l h).data.toList = (s.data.toList.take h).drop l := by
  simp only [cutS, ByteArray.data_extract, Array.toList_extract]
  simp [List.extract, List.drop_take]

theorem trimRight_el {b : Nat} {T : TypeId} {w : World} {K : Value → World → Prop} {X : List PanicEntry → World → Prop} (hb : w.heap[b]? = some (.cells (Lib.setCells hexSet) T (0, 0)))
    (s : ByteArray) (hs : s.size ≤ 9223372036854775807) (h : ∀ s1 : ByteArray, s1.data.toList.all (hexSet.contains ·) = s.data.toList.all (hexSet.contains ·) → K (.string s1) w) :
    call P n_strings_trimRightASCII [.string s, .pointer (some ⟨b, 0, none⟩)] w K X := by
  refine strings_trimRightASCII.call ?_
  unfold strings_trimRightASCII.F
  intro L hL
  suffices hh : ∀ (n : Nat) (s1 : ByteArray), s1.size = n → s1.size ≤ 9223372036854775807 → s1.data.toList.all (hexSet.contains ·) = s.data.toList.all (hexSet.contains ·) → L [.string s1] w from hh _ s rfl hs rfl
  intro n
  induction n using Nat.strongRecOn with
  | _ n ih =>
    intro s1 hn hs1 hall
    refine hL s1 w fun _ => cnd_i (fun hg => ?_) (fun _ => h s1 hall)
    simp only [iGt_t, lenN_el] at hg
    have hsub : iSub .i64 (lenN s1.size) 1 = ((s1.size - 1 : Nat) : Int) := by
      rw [lenN_el, iSub_i64 (by omega) (by omega)]; omega
    rw [hsub]
    have hlen := size_len s1
    have hlt : s1.size - 1 < s1.data.toList.length := by omega
    refine ⟨by unfold inB; omega, ?_⟩
    refine contains_el hb (bt_at (List.getElem?_eq_getElem hlt)) ?_
    refine cnd_i (fun _ => h s1 hall) (fun hc => ?_)
    refine ⟨by unfold inC; omega, ?_⟩
    have hc' : hexSet.contains s1.data.toList[s1.size - 1] = true := by simpa using hc
    have hd := cutS_data s1 0 (Int.toNat ((s1.size - 1 : Nat) : Int))
    rw [List.drop_zero, Int.toNat_natCast] at hd
    have hsz : (cutS s1 0 (Int.toNat ((s1.size - 1 : Nat) : Int))).size = s1.size - 1 := by
      rw [size_len, Int.toNat_natCast, hd, List.length_take]; omega
    refine ih (s1.size - 1) (by omega) _ hsz (by omega) ?_
    rw [Int.toNat_natCast, hd, ← hall]
    have hsplit : s1.data.toList = s1.data.toList.take (s1.size - 1) ++ [s1.data.toList[s1.size - 1]] := by
      have h1 := List.take_append_getElem hlt
      have h2 : s1.data.toList.take (s1.size - 1 + 1) = s1.data.toList := List.take_of_length_le (by omega)
      rw [h2] at h1; exact h1.symm
    conv => rhs; rw [hsplit]
    rw [List.all_append, List.all_cons, List.all_nil, hc', Bool.and_true, Bool.and_true]

theorem trimLeft_el {b : Nat} {T : TypeId} {w : World} {K : Value → World → Prop} {X : List PanicEntry → World → Prop} (hb : w.heap[b]? = some (.cells (Lib.setCells hexSet) T (0, 0)))
    (s : ByteArray) (h : ∀ s1 : ByteArray, (s1 = bs [] ↔ s.data.toList.all (hexSet.contains ·) = true) → K (.string s1) w) :
    call P n_strings_trimLeftASCII [.string s, .pointer (some ⟨b, 0, none⟩)] w K X := by
  refine strings_trimLeftASCII.call ?_
  unfold strings_trimLeftASCII.F
  intro L hL
  suffices hh : ∀ (l : List UInt8) (s1 : ByteArray), s1.data.toList = l → l.all (hexSet.contains ·) = s.data.toList.all (hexSet.contains ·) → L [.string s1] w from hh _ s rfl rfl
  intro l
  induction l with
  | nil =>
    intro s1 hl hall
    refine hL s1 w fun _ => cnd_i (fun hg => ?_) (fun _ => h s1 ?_)
    · simp only [iGt_t, lenN_el] at hg
      have := size_len s1; rw [hl, List.length_nil] at this; omega
    · rw [← hall, ba_eq, ByteArray.toList_eq, hl, bs, ByteArray.toList_mk]; simp
  | cons c r ih =>
    intro s1 hl hall
    have hlen := size_len s1
    rw [hl, List.length_cons] at hlen
    refine hL s1 w fun _ => cnd_i (fun hg => ?_) (fun hg => ?_)
    · refine ⟨by unfold inB; omega, ?_⟩
      refine contains_el (x := c) hb (bt0 hl) ?_
      refine cnd_i (fun hc => h s1 ?_) (fun hc => ?_)
      · have hc' : hexSet.contains c = false := by simpa using hc
        rw [← hall, ba_eq, ByteArray.toList_eq, hl, bs, ByteArray.toList_mk, List.all_cons, hc']; simp
      · have hc' : hexSet.contains c = true := by simpa using hc
        refine ⟨by unfold inC; omega, ih _ ?_ ?_⟩
        · have := cut1 s1; rw [hl] at this; exact this
        · rw [← hall, List.all_cons, hc', Bool.true_and]
    · simp only [iGt_f, lenN_el] at hg; omega

theorem trimHex_el {s : ByteArray} {w : World} {K : Value → World → Prop} {X : List PanicEntry → World → Prop} (hs : s.size ≤ 9223372036854775807)
    (h : ∀ (s1 : ByteArray) w', (s1 = bs [] ↔ s.data.toList.all (hexSet.contains ·) = true) → Ext w w' → K (.string s1) w') :
    call P n_strings_Trim [.string s, .string (bs hexSet)] w K X := by
  refine strings_Trim.call ?_
  unfold strings_Trim.F
  intro K1 hK1
  refine cnd_i (fun h0 => hK1 _ _ fun _ => if_t rfl (h s w ?_ (Upd.refl _ _))) (fun h0 => hK1 _ _ fun _ => if_f (by simp [sEq_f, bs, hexSet]) ?_)
  · simp only [sEq_t] at h0; subst h0; simp [bs]
  intro K2 hK2
  have h16 : (bs hexSet).size = 16 := by decide
  refine if_f (by rw [h16]; decide) (hK2 _ _ fun _ => if_f rfl ?_)
  have hz : ∀ w, (zeroValue 141).run P w = .ok (.agg (Array.replicate 256 (.bool false))) w := Tryz.zeroValue141
  have hasc : ∀ (j : Nat) b, (bs hexSet).data.toList[j]? = some b → b.toNat < 128 := by
    intro j b hj
    have hm : b ∈ hexSet := List.mem_of_getElem? hj
    have : ∀ b ∈ hexSet, b.toNat < 128 := by decide
    exact this b hm
  refine call_calls (Tryz.strings_makeASCIISet hz (bs hexSet) w (by decide) hasc) ?_
  rintro e w1 ⟨rfl, hw1⟩
  have hx1 : Ext w w1 := by rw [hw1]; exact Upd.alloc _
  have hset : Lib.setCells (bs hexSet).data.toList = #[.bool false, .bool false, .bool false, .bool false, .bool false, .bool false, .bool false, .bool false, .bool false, .bool false, .bool false, .bool false, .bool false, .bool false, .bool false, .bool false, .bool false, .bool false, .bool false, .bool false, .bool false, .bool false, .bool false, .bool false, .bool false, .bool false, .bool false, .bool false, .bool false, .bool false, .bool false, .bool false, .bool false, .bool false, .bool false, .bool false, .bool false, .bool false, .bool false, .bool false, .bool false, .bool false, .bool false, .bool false, .bool false, .bool false, .bool false, .bool false, .bool true, .bool true, .bool true, .bool true, .bool true, .bool true, .bool true, .bool true, .bool true, .bool true, .bool false, .bool false, .bool false, .bool false, .bool false, .bool false, .bool false, .bool false, .bool false, .bool false, .bool false, .bool false, .bool false, .bool false, .bool false, .bool false, .bool false, .bool false, .bool false, .bool false, .bool false, .bool false, .bool false, .bool false, .bool false, .bool false, .bool false, .bool false, .bool false, .bool false, .bool false, .bool false, .bool false, .bool false, .bool false, .bool false, .bool false, .bool false, .bool false, .bool true, .bool true, .bool true, .bool true, .bool true, .bool true, .bool false, .bool false, .bool false, .bool false, .bool false, .bool false, .bool false, .bool false, .bool false, .bool false, .bool false, .bool false, .bool false, .bool false, .bool false, .bool false, .bool false, .bool false, .bool false, .bool false, .bool false, .bool false, .bool false, .bool false, .bool false, .bool false, .bool false, .bool false, .bool false, .bool false, .bool false, .bool false, .bool false, .bool false, .bool false, .bool false, .bool false, .bool false, .bool false, .bool false, .bool false, .bool false, .bool false, .bool false, .bool false, .bool false, .bool false, .bool false, .bool false, .bool false, .bool false, .bool false, .bool false, .bool false, .bool false, .bool false, .bool false, .bool false, .bool false, .bool false, .bool false, .bool false, .bool false, .bool false, .bool false, .bool false, .bool false, .bool false, .bool false, .bool false, .bool false, .bool false, .bool false, .bool false, .bool false, .bool false, .bool false, .bool false, .bool false, .bool false, .bool false, .bool false, .bool false, .bool false, .bool false, .bool false, .bool false, .bool false, .bool false, .bool false, .bool false, .bool false, .bool false, .bool false, .bool false, .bool false, .bool false, .bool false, .bool false, .bool false, .bool false, .bool false, .bool false, .bool false, .bool false, .bool false, .bool false, .bool false, .bool false, .bool false, .bool false, .bool false, .bool false, .bool false, .bool false, .bool false, .bool false, .bool false, .bool false, .bool false, .bool false, .bool false, .bool false, .bool false, .bool false, .bool false, .bool false, .bool false, .bool false, .bool false, .bool false, .bool false, .bool false, .bool false, .bool false, .bool false, .bool false, .bool false, .bool false, .bool false, .bool false, .bool false, .bool false, .bool false, .bool false, .bool false, .bool false, .bool false, .bool false, .bool false, .bool false, .bool false, .bool false] := by kernel_rfl
  rw [hset]
  refine al_el fun b w2 hb hblk hx2 hsz2 => ?_
  refine st_el hblk (Nat.le_of_ble_eq_true (by kernel_rfl)) fun w3 h3 hu3 hsz3 => ?_
  have hx3 : Ext w w3 := Ext.upd (hx1.trans hx2) hu3 (fun i hi => by rw [hi, hb]; exact hx1.size)
  have hset3 : w3.heap[b]? = some (.cells (Lib.setCells hexSet) 141 (0, 0)) := h3.trans (by kernel_rfl)
  refine if_t rfl ?_
  refine trimRight_el hset3 s hs fun s1 h1 => ?_
  refine trimLeft_el hset3 s1 fun s2 h2 => ?_
  exact h s2 _ (h2.trans (by rw [h1])) hx3
end Go.Proofs.YtgfbkmclekafbaaGreatDoor

/- Sixteen digits to a float. -/
set_option maxRecDepth 100000
namespace Go.Proofs.YtgfbkmclekafbaaGreatDoor
open Go Go.Vc

def digVal (c : UInt8) : Nat := if c.toNat < 58 then c.toNat - 48 else c.toNat - 87
def hexFrom (a : Nat) (l : List UInt8) : Nat := l.foldl (fun a c => a * 16 + digVal c) a
def float? (l : List UInt8) : Option Nat := if l.length = 16 ∧ l.all (hexSet.contains ·) = true then some (hexFrom 0 l) else none

theorem frombits_el {n : Nat} {w : World} {K : Value → World → Prop} {X : List PanicEntry → World → Prop} (h : K (.float .f64 n) w) : callX P n_math_Float64frombits [.int .u64 n] w K X := by
  have hr : (callFunc n_math_Float64frombits #[.int .u64 n]).run P w = .ok (.value (.float .f64 n)) w := by kernel_rfl
  unfold callX
  rw [show ([.int .u64 n] : List Value).toArray = #[.int .u64 n] from rfl, hr]
  exact h
theorem bits_el {n : Nat} {w : World} {K : Value → World → Prop} {X : List PanicEntry → World → Prop} (h : K (.int .u64 n) w) : callX P n_math_Float64bits [.float .f64 n] w K X := by
  have hr : (callFunc n_math_Float64bits #[.float .f64 n]).run P w = .ok (.value (.int .u64 n)) w := by kernel_rfl
  unfold callX
  rw [show ([.float .f64 n] : List Value).toArray = #[.float .f64 n] from rfl, hr]
  exact h
theorem lower_el {c : Int} {w : World} {K : Value → World → Prop} {X : List PanicEntry → World → Prop} (h : K (.int .u8 (bOr .u8 c 32)) w) : call P n_strconv_lower [.int .u8 c] w K X := strconv_lower.call h

theorem hex_cases {c : UInt8} (h : hexSet.contains c = true) : (48 ≤ c.toNat ∧ c.toNat ≤ 57) ∨ (97 ≤ c.toNat ∧ c.toNat ≤ 102) := by
  have : ∀ c ∈ hexSet, (48 ≤ c.toNat ∧ c.toNat ≤ 57) ∨ (97 ≤ c.toNat ∧ c.toNat ≤ 102) := by decide
  exact this c (by simpa using h)
theorem hex_lower {c : UInt8} (h : hexSet.contains c = true) (h' : 97 ≤ c.toNat) : bOr .u8 (c.toNat : Int) 32 = (c.toNat : Int) := by
  have : ∀ c ∈ hexSet, 97 ≤ c.toNat → bOr .u8 (c.toNat : Int) 32 = (c.toNat : Int) := by decide
  exact this c (by simpa using h) h'
theorem digVal_lt {c : UInt8} (h : hexSet.contains c = true) : digVal c < 16 := by
  have : ∀ c ∈ hexSet, digVal c < 16 := by decide
  exact this c (by simpa using h)
theorem hexFrom_lt : ∀ (l : List UInt8) (a k : Nat), a < 16 ^ k → l.all (hexSet.contains ·) = true → hexFrom a l < 16 ^ (k + l.length)
  | [], a, k, h, _ => by simpa [hexFrom] using h
  | c :: r, a, k, h, hall => by
    simp only [List.all_cons, Bool.and_eq_true] at hall
    have hd := digVal_lt hall.1
    have := hexFrom_lt r (a * 16 + digVal c) (k + 1) (by rw [Nat.pow_succ]; omega) hall.2
    have e : k + 1 + r.length = k + (c :: r).length := by simp; omega
    rw [e] at this; exact this
theorem hexFrom_bound {l : List UInt8} (hl : l.length = 16) (hall : l.all (hexSet.contains ·) = true) : hexFrom 0 l < 18446744073709551616 := by
  have := hexFrom_lt l 0 0 (by decide) hall
  rw [hl] at this; simpa using this

theorem uintHex_el {s : ByteArray} {w : World} {K : Value → World → Prop} {X : List PanicEntry → World → Prop} (hl : s.data.toList.length = 16) (hall : s.data.toList.all (hexSet.contains ·) = true)
    (h : ∀ w', Ext w w' → K (.tuple #[.int .u64 (hexFrom 0 s.data.toList), .nilIface]) w') : call P n_strconv_ParseUint_ [.string s, .int .i64 16, .int .i64 64] w K X := by
  have hsz : s.size = 16 := by rw [size_len]; exact hl
  refine strconv_ParseUint_.call ?_
  unfold strconv_ParseUint_.F
  refine if_f (by rw [sEq_f]; rintro rfl; simp [bs] at hl) ?_
  intro K1 hK1 K11 hK11
  refine if_t (by decide) (hK11 _ _ fun _ => if_t (by decide) (hK1 _ _ _ fun _ => ?_))
  intro K2 hK2
  refine if_f (by decide) ?_
  intro K10 hK10
  refine if_f (by decide) (hK10 _ _ fun _ => if_f (by decide) (hK2 _ _ fun _ => ?_))
  intro K3 hK3
  refine if_f (by decide) (if_t (by decide) (hK3 _ _ fun _ => ?_))
  refine ⟨by unfold nng; decide, ?_⟩
  refine conv_bytes Go.Proofs.Tryz.underlying9 Go.Proofs.Tryz.underlying39 Go.Proofs.Tryz.underlying5 fun a c w1 hcells hblk hx1 => ?_
  rw [hsz]
  intro L hL
  have e16 : IntKind.wrap .u8 16 = 16 := by decide
  have e16' : IntKind.wrap .u64 16 = 16 := by decide
  have emax : iSub .u64 (iShl .u64 1 (IntKind.wrap .u64 64)) 1 = 18446744073709551615 := by decide
  simp only [e16, e16', emax] at hL
  suffices hh : ∀ (r pre : List UInt8), pre ++ r = s.data.toList → L [.bool false, .int .u64 (hexFrom 0 pre), .int .i64 pre.length] w1 from hh _ [] rfl
  intro r
  induction r with
  | nil =>
    intro pre hpre
    rw [List.append_nil] at hpre
    refine hL _ _ _ _ fun _ => if_f (by rw [hpre, hl]; decide) ?_
    intro K9 hK9
    refine if_f rfl (hK9 _ _ fun _ => if_f rfl ?_)
    rw [hpre]; exact h _ hx1
  | cons c r ih =>
    intro pre hpre
    have hlen : pre.length + (r.length + 1) = 16 := by rw [← hl, ← hpre]; simp
    have hsplit := hall
    rw [← hpre, List.all_append, List.all_cons, Bool.and_eq_true, Bool.and_eq_true] at hsplit
    obtain ⟨hp, hc, hr⟩ := hsplit
    have hlow : hexFrom 0 pre < 16 ^ 15 := by
      have h1 := hexFrom_lt pre 0 0 (by decide) hp
      have h2 : 16 ^ (0 + pre.length) ≤ 16 ^ 15 := Nat.pow_le_pow_right (by decide) (by omega)
      omega
    have e15 : (16 : Nat) ^ 15 = 1152921504606846976 := by decide
    rw [e15] at hlow
    have hdv := digVal_lt hc
    have hnext : hexFrom 0 (pre ++ [c]) = hexFrom 0 pre * 16 + digVal c := by simp [hexFrom, List.foldl_append]
    refine hL _ _ _ _ fun _ => if_t (by simp only [iLt_t, lenN_el]; omega) ?_
    refine ⟨by unfold inB; omega, ?_⟩
    rintro d rfl
    simp only [scale_eq, Int.toNat_natCast, Nat.mul_one]
    obtain ⟨d', hd', hcell⟩ := hcells.at (i := pre.length) (by simp [hl]; omega)
    cases hd'
    refine ld_cell hcell ?_
    have hval : (s.data.toList.map byteVal)[pre.length]'(by simp [hl]; omega) = .int .u8 (c.toNat : Int) := by
      simp only [List.getElem_map, byteVal]
      congr 2
      have : s.data.toList[pre.length]? = some c := by rw [← hpre]; simp
      obtain ⟨_, he⟩ := List.getElem?_eq_some_iff.1 this
      rw [he]
    rw [hval, asI_at]
    intro K4 hK4
    have step : K4 [.bool false, .int .u8 (digVal c : Int)] w1 := by
      refine hK4 _ _ _ fun _ => if_f (by simp only [iGe_f]; omega) (if_f (by simp only [iGe_f]; omega) ?_)
      have eD : IntKind.wrap .u64 (digVal c : Int) = (digVal c : Int) := wrap_u64 (by omega) (by omega)
      have eM : iMul .u64 (hexFrom 0 pre : Int) 16 = ((hexFrom 0 pre * 16 : Nat) : Int) := by
        unfold iMul; rw [wrap_u64 (by omega) (by omega)]; omega
      have eA : iAdd .u64 ((hexFrom 0 pre * 16 : Nat) : Int) (digVal c : Int) = ((hexFrom 0 pre * 16 + digVal c : Nat) : Int) := by
        unfold iAdd; rw [wrap_u64 (by omega) (by omega)]; omega
      rw [eD, eM, eA]
      intro K5 hK5
      refine if_f (by simp only [iLt_f]; omega) (hK5 _ _ fun _ => if_f (by simp only [iGt_f]; omega) ?_)
      have eI : iAdd .i64 (pre.length : Int) 1 = ((pre ++ [c]).length : Int) := by
        rw [iAdd_i64 (by omega) (by omega)]; simp
      rw [eI, ← hnext]
      exact ih (pre ++ [c]) (by rw [List.append_assoc]; exact hpre)
    intro K6 hK6
    have h95 : ¬ ((c.toNat : Int) = 95) := by rcases hex_cases hc with hh | hh <;> omega
    refine if_f (by simp only [iEq_f]; exact h95) (hK6 _ _ fun _ => if_f rfl ?_)
    intro K7 hK7
    rcases hex_cases hc with hh | hh
    · refine if_t (by simp only [iLe_t]; omega) (hK7 _ _ fun _ => if_t (by simp only [iLe_t]; omega) ?_)
      have : iSub .u8 (c.toNat : Int) 48 = (digVal c : Int) := by
        unfold iSub digVal; rw [if_pos (by omega), wrap_u8 (by omega) (by omega)]; omega
      rw [this]; exact step
    · refine if_t (by simp only [iLe_t]; omega) (hK7 _ _ fun _ => if_f (by simp only [iLe_f]; omega) ?_)
      refine lower_el ?_
      rw [asI_at, hex_lower hc hh.1]
      intro K8 hK8
      refine if_t (by simp only [iLe_t]; omega) (lower_el ?_)
      rw [asI_at, hex_lower hc hh.1]
      refine hK8 _ _ fun _ => if_t (by simp only [iLe_t]; omega) (lower_el ?_)
      rw [asI_at, hex_lower hc hh.1]
      have e1 : iSub .u8 (c.toNat : Int) 97 = (c.toNat : Int) - 97 := by unfold iSub; rw [wrap_u8 (by omega) (by omega)]
      have e2 : iAdd .u8 ((c.toNat : Int) - 97) 10 = (digVal c : Int) := by
        unfold iAdd digVal; rw [if_neg (by omega), wrap_u8 (by omega) (by omega)]; omega
      rw [e1, e2]; exact step

theorem float_el {s : ByteArray} {w : World} {K : Value → World → Prop} {X : List PanicEntry → World → Prop} (hs : s.size ≤ 281474976710656)
    (h1 : ∀ n w', float? s.data.toList = some n → Ext w w' → K (.float .f64 n) w')
    (h2 : ∀ w', float? s.data.toList = none → Ext w w' → X (fault 211) w') : call P n_script_float [.string s] w K X := by
  refine script_float.call ?_
  unfold script_float.F
  intro K1 hK1
  have hlen := size_len s
  refine cnd_i (fun hg => ?_) (fun hg => ?_)
  · simp only [iEq_t, lenN_el] at hg
    refine trimHex_el (by omega) fun s1 w1 hs1 hx1 => ?_
    refine hK1 _ _ fun _ => must_el (fun hb => ?_) (fun hb => ?_)
    · rw [sEq_t] at hb
      have hall := hs1.1 hb
      have hl : s.data.toList.length = 16 := by omega
      refine strconv_ParseUint.call ?_
      unfold strconv_ParseUint.F
      refine uintHex_el hl hall fun w2 hx2 => ?_
      refine ⟨rfl, if_f rfl ⟨rfl, must_ok ?_⟩⟩
      exact frombits_el (X := X) (h1 _ _ (by unfold float?; rw [if_pos ⟨hl, hall⟩]) (hx1.trans hx2))
    · rw [sEq_f] at hb
      refine h2 _ ?_ hx1
      unfold float?
      rw [if_neg]; rintro ⟨_, hall⟩; exact hb (hs1.2 hall)
  · simp only [iEq_f, lenN_el] at hg
    refine hK1 _ _ fun _ => must_no (h2 _ ?_ (Upd.refl _ _))
    unfold float?
    rw [if_neg]; rintro ⟨hl, _⟩; omega
end Go.Proofs.YtgfbkmclekafbaaGreatDoor

/- A float's sixteen digits. -/
set_option maxRecDepth 100000
namespace Go.Proofs.YtgfbkmclekafbaaGreatDoor
open Go Go.Vc

def dig16 (d : Nat) : UInt8 := UInt8.ofNat (if d < 10 then 48 + d else 87 + d)
def hexNum (u : Nat) : List UInt8 := if h : u < 16 then [dig16 u] else hexNum (u / 16) ++ [dig16 (u % 16)]
 termination_by u
 decreasing_by omega
/-- a float's digits, from k on -/
def hexFill (k u : Nat) : List UInt8 := match k with | 0 => [] | k + 1 => hexFill k (u / 16) ++ [dig16 (u % 16)]
def hexText (u : Nat) : List UInt8 := hexFill 16 u

theorem hexFill_zero (k : Nat) : hexFill k 0 = List.replicate k 48 := by
  induction k with
  | zero => rfl
  | succ k ih =>
    rw [hexFill, Nat.zero_div, ih, List.replicate_succ']; rfl
theorem hexFill_len (k u : Nat) : (hexFill k u).length = k := by
  induction k generalizing u with
  | zero => rfl
  | succ k ih => rw [hexFill, List.length_append, ih]; rfl
theorem hexNum_len_pos (u : Nat) : 1 ≤ (hexNum u).length := by
  rw [hexNum]; split
  · simp
  · simp
theorem hexFill_num : ∀ (k u : Nat), 1 ≤ k → u < 16 ^ k → (hexNum u).length ≤ k ∧ hexFill k u = List.replicate (k - (hexNum u).length) 48 ++ hexNum u
  | 0, u, h, _ => absurd h (by decide)
  | k + 1, u, _, h => by
    by_cases hu : u < 16
    · have e : hexNum u = [dig16 u] := by rw [hexNum, dif_pos hu]
      rw [e, hexFill, Nat.div_eq_of_lt hu, hexFill_zero, Nat.mod_eq_of_lt hu]
      exact ⟨by simp, by simp⟩
    · have hk : 1 ≤ k := by
        cases k with
        | zero => simp at h; omega
        | succ k => omega
      obtain ⟨h1, h2⟩ := hexFill_num k (u / 16) hk (by rw [Nat.pow_succ] at h; omega)
      have e : hexNum u = hexNum (u / 16) ++ [dig16 (u % 16)] := by rw [hexNum, dif_neg hu]
      rw [e, hexFill, h2, List.length_append]
      refine ⟨by simp; omega, ?_⟩
      rw [← List.append_assoc]; congr 3; simp

def digits36 : List UInt8 := [48, 49, 50, 51, 52, 53, 54, 55, 56, 57, 97, 98, 99, 100, 101, 102, 103, 104, 105, 106, 107, 108, 109, 110, 111, 112, 113, 114, 115, 116, 117, 118, 119, 120, 121, 122]
theorem digit_at {d : Nat} (h : d < 16) : bt (bs digits36) (d : Int) = ((dig16 d).toNat : Int) := by
  have : ∀ d : Fin 16, bt (bs digits36) ((d : Nat) : Int) = ((dig16 d).toNat : Int) := by decide
  exact this ⟨d, h⟩
theorem and15 {u : Nat} (h : u < 18446744073709551616) : bAnd .u64 (u : Int) 15 = ((u % 16 : Nat) : Int) := by
  unfold bAnd
  have e1 : (BitVec.ofInt 64 (u : Int)).toNat = u := by rw [BitVec.toNat_ofInt]; simp; omega
  have e2 : (BitVec.ofInt 64 15).toNat = 15 := by decide
  show IntKind.wrap .u64 (((BitVec.ofInt 64 (u : Int) &&& BitVec.ofInt 64 15).toNat : Nat) : Int) = _
  rw [BitVec.toNat_and, e1, e2, show (15 : Nat) = 2 ^ 4 - 1 by decide, Nat.and_two_pow_sub_one_eq_mod]
  rw [wrap_u64 (by omega) (by omega)]
theorem shr4 {u : Nat} : iShr .u64 (u : Int) 4 = ((u / 16 : Nat) : Int) := by
  unfold iShr
  rw [show (2 : Int) ^ min (Int.toNat 4) (IntKind.bits .u64) = 16 by decide]
  rw [Int.fdiv_eq_ediv_of_nonneg _ (by decide)]; omega

theorem trailing_el {w : World} {K : Value → World → Prop} {X : List PanicEntry → World → Prop} (hc : w.cell? ⟨g_bits_deBruijn64tab, 15, none⟩ = some (.int .u8 4)) (h : K (.int .i64 4) w) :
    call P n_bits_TrailingZeros [.int .u64 16] w K X := by
  refine bits_TrailingZeros.call ?_
  unfold bits_TrailingZeros.F
  refine bits_TrailingZeros64.call ?_
  unfold bits_TrailingZeros64.F
  have e : iShr .u64 (iMul .u64 (bAnd .u64 16 (iSub .u64 0 16)) 285870213051353865) 58 = 15 := by decide
  rw [e]
  refine if_f (by decide) ⟨by unfold nng; decide, by unfold inB; decide, ?_⟩
  rintro d rfl
  exact ld_cell hc h

theorem formatBits_el {n : Nat} {w : World} {K : Value → World → Prop} {X : List PanicEntry → World → Prop} (hw : Lw w) (hn : n < 18446744073709551616)
    (h : ∀ w', Ext w w' → K (.tuple #[.slice none 0 0, .string ⟨(hexNum n).toArray⟩]) w') :
    call P n_strconv_formatBits [.slice none 0 0, .int .u64 n, .int .i64 16, .bool false, .bool false] w K X := by
  refine strconv_formatBits.call ?_
  unfold strconv_formatBits.F
  intro K1 hK1 K4 hK4
  refine if_f (by decide) (hK4 _ _ fun _ => ?_)
  intro K5 hK5
  refine if_f (by decide) (hK5 _ _ fun _ => if_f (by decide) (hK1 _ fun _ => ?_))
  refine al_el fun b w1 hb hblk hx1 hsz1 => ?_
  intro K2 hK2
  refine if_f rfl (hK2 _ _ fun _ => ?_)
  intro K3 hK3
  refine strconv_isPowerOfTwo.call ?_
  unfold strconv_isPowerOfTwo.F
  simp only [asB_at]
  refine if_t (by decide) ?_
  rw [show IntKind.wrap .u64 16 = 16 by decide]
  have hw1 := hw.ext hx1
  refine trailing_el hw1.tz ?_
  intro L hL
  have e4 : IntKind.wrap .u64 4 = 4 := by decide
  have e15 : iSub .u64 16 1 = 15 := by decide
  have e36 : (bs digits36).size = 36 := by decide
  have ebs : bs [48, 49, 50, 51, 52, 53, 54, 55, 56, 57, 97, 98, 99, 100, 101, 102, 103, 104, 105, 106, 107, 108, 109, 110, 111, 112, 113, 114, 115, 116, 117, 118, 119, 120, 121, 122] = bs digits36 := rfl
  simp only [e4, e15, ebs, e36] at hL
  suffices hh : ∀ (k u : Nat) (tl : List UInt8) (w2 : World) (cs : Array Value) (T : TypeId), u ≤ k → tl.length ≤ 15 → u < 16 ^ (16 - tl.length) → hexNum u ++ tl = hexNum n → Ext w w2 → w2.heap[b]? = some (.cells cs T (0, 0)) → cs.size = 65 → cs.toList.drop (65 - tl.length) = tl.map byteVal →
      L [.int .u64 u, .int .i64 ((65 - tl.length : Nat) : Int)] w2 from
    hh n n [] w1 _ _ (Nat.le_refl _) (by decide) (by simpa using hn) (by simp) hx1 hblk rfl (by rfl)
  intro k
  induction k using Nat.strongRecOn with
  | _ k ih =>
    intro u tl w2 cs T hku htl hub hnum hx2 hblk2 hcs hdrop
    have hpos : (65 - tl.length : Nat) ≥ 50 := by omega
    have esub : iSub .i64 ((65 - tl.length : Nat) : Int) 1 = ((65 - (tl.length + 1) : Nat) : Int) := by
      rw [iSub_i64 (by omega) (by omega)]; omega
    have hu64 : u < 18446744073709551616 := by
      have : 16 ^ (16 - tl.length) ≤ 16 ^ 16 := Nat.pow_le_pow_right (by decide) (by omega)
      have e : (16 : Nat) ^ 16 = 18446744073709551616 := by decide
      omega
    refine hL _ _ _ fun _ => ?_
    rw [esub]
    have hcut : ∀ v : UInt8, (cs.setIfInBounds (65 - (tl.length + 1)) (byteVal v)).toList.drop (65 - (tl.length + 1)) = (v :: tl).map byteVal := by
      intro v
      rw [Array.toList_setIfInBounds, List.map_cons, ← hdrop]
      have hlt : 65 - (tl.length + 1) < (cs.toList.set (65 - (tl.length + 1)) (byteVal v)).length := by rw [List.length_set]; simp; omega
      rw [List.drop_eq_getElem_cons hlt, List.getElem_set_self]
      congr 1
      rw [List.drop_set_of_lt (by omega)]
      congr 1; omega
    refine cnd_i (fun hg => ?_) (fun hg => ?_)
    · simp only [iGe_t] at hg
      rw [and15 hu64]
      refine ⟨by unfold inB; omega, by unfold inB; omega, ?_⟩
      rintro d rfl
      rw [digit_at (Nat.mod_lt _ (by decide)), scale_eq, Nat.mul_one, Int.toNat_natCast, add_pl, Nat.zero_add]
      refine st1_el hblk2 (by omega) fun w3 h3 hu3 hsz3 => ?_
      refine ⟨by unfold nng; decide, ?_⟩
      rw [shr4]
      have htl14 : tl.length ≤ 14 := by
        rcases Nat.lt_or_ge 14 tl.length with hlt | hge
        · have : tl.length = 15 := by omega
          rw [this] at hub; simp at hub; omega
        · exact hge
      refine ih (u / 16) (by omega) (u / 16) (dig16 (u % 16) :: tl) w3 _ T (Nat.le_refl _) (by simp; omega) ?_ ?_ (Ext.upd hx2 hu3 (fun i hi => by rw [hi, hb]; exact Nat.le_refl _)) h3 (by simpa using hcs) (hcut _)
      · rw [List.length_cons]
        have e : 16 - tl.length = (16 - (tl.length + 1)) + 1 := by omega
        rw [e, Nat.pow_succ] at hub; omega
      · rw [← hnum]
        have hge : ¬ u < 16 := by omega
        conv => rhs; rw [hexNum, dif_neg hge]
        simp
    · simp only [iGe_f] at hg
      refine ⟨by unfold inB; omega, by unfold inB; omega, ?_⟩
      rintro d rfl
      rw [digit_at (by omega), scale_eq, Nat.mul_one, Int.toNat_natCast, add_pl, Nat.zero_add]
      refine st1_el hblk2 (by omega) fun w3 h3 hu3 hsz3 => ?_
      have hx3 : Ext w w3 := Ext.upd hx2 hu3 (fun i hi => by rw [hi, hb]; exact Nat.le_refl _)
      refine hK3 _ _ fun _ => if_f rfl (if_f rfl ?_)
      refine ⟨by unfold inC; omega, ?_⟩
      have hnum' : hexNum n = dig16 u :: tl := by rw [← hnum, hexNum, dif_pos (by omega)]; rfl
      have hc := hcut (dig16 u)
      rw [← hnum'] at hc
      have hlen : (hexNum n).length = tl.length + 1 := by rw [hnum']; rfl
      have hsl : slA (some ⟨b, 0, none⟩) (Int.toNat ((65 - (tl.length + 1) : Nat) : Int)) 65 1 = some ⟨b, 65 - (tl.length + 1), none⟩ := by
        unfold slA; rw [if_neg (by omega), Int.toNat_natCast, Option.map_some, add_pl, Nat.mul_one, Nat.zero_add]
      rw [hsl]
      refine conv_str (l := hexNum n) Go.Proofs.Tryz.underlying39 Go.Proofs.Tryz.underlying5 Go.Proofs.Tryz.underlying9 (by simp only [sb, Int.toNat_natCast]; omega) (.inr ⟨_, rfl, rfl, fun i hi => ?_⟩) (h _ hx3)
      rw [add_pl]
      refine cell_blk h3 ?_
      rw [← Array.getElem?_toList, ← List.getElem?_drop]
      have : (cs.setIfInBounds (65 - (tl.length + 1)) (byteVal (dig16 u))).toList.drop (65 - (tl.length + 1)) = (hexNum n).map byteVal := hc
      rw [show byteVal (dig16 u) = Value.int .u8 ((dig16 u).toNat : Int) from rfl] at this
      rw [this, List.getElem?_eq_getElem hi]

theorem repeat0_el {k : Nat} {w : World} {K : Value → World → Prop} {X : List PanicEntry → World → Prop} (hk : k ≤ 15)
    (h : ∀ w', Ext w w' → K (.string (bs (List.replicate k 48))) w') : call P n_strings_Repeat [.string (bs [48]), .int .i64 k] w K X := by
  refine strings_Repeat.call ?_
  unfold strings_Repeat.F
  refine cnd_i (fun h0 => ?_) (fun h0 => cnd_i (fun h1 => ?_) (fun h1 => ?_))
  · simp only [iEq_t] at h0
    have : k = 0 := by omega
    subst this; exact h _ (Upd.refl _ _)
  · simp only [iEq_t] at h1
    have : k = 1 := by omega
    subst this; exact h _ (Upd.refl _ _)
  simp only [iEq_f] at h0 h1
  have es : (bs [48]).size = 1 := by decide
  simp only [es, lenN_el]
  intro K1 hK1
  refine if_f (by simp only [iLt_f]; omega) (hK1 _ fun _ => ?_)
  have e1 : IntKind.wrap .u64 ((1 : Nat) : Int) = ((1 : Nat) : Int) := by decide
  rw [e1, wrap_u64 (by omega) (by omega)]
  refine call_calls (Tryz.bits_Mul 1 k (by decide) (by omega) w) ?_
  rintro e w1 ⟨rfl, hw1⟩
  rw [hw1]
  have d1 : (1 * k / 18446744073709551616 : Nat) = 0 := by omega
  have d2 : (1 * k % 18446744073709551616 : Nat) = k := by omega
  rw [d1, d2]
  intro K2 hK2 K11 hK11
  rw [wrap_i64 (by omega) (by omega)] at hK2
  refine if_f (by decide) (hK11 _ _ fun _ => if_f (by simp only [iGt_f]; omega) (hK2 _ fun _ => if_f (by decide) ?_))
  intro K3 hK3
  refine ⟨by unfold inB; decide, ?_⟩
  intro K5 hK5
  have eb : bt (bs [48]) 0 = 48 := by decide
  rw [eb]
  refine if_f (by decide) (if_f (by decide) (if_t (by decide) (hK5 _ _ fun _ => if_t (by decide) ?_)))
  have pre : ∀ (a : List UInt8) (b : Bool) (w : World) (K : Value → World → Prop), Lib.hasPrefix (bs a).data.toList (bs [48]).data.toList = b → K (.bool b) w → call P n_strings_HasPrefix [.string (bs a), .string (bs [48])] w K X := by
    intro a b w K hb hK
    refine call_calls (Tryz.strings_HasPrefix (bs a) (bs [48]) w) ?_
    rintro e w1 ⟨rfl, hw1⟩
    rw [hw1]
    rw [← hb] at hK
    exact hK
  intro K6 hK6
  refine if_t (by simp only [iLe_t]; omega) (pre _ false _ _ (by decide) (hK6 _ _ fun _ => if_f rfl ?_))
  intro K7 hK7
  refine if_t (by simp only [iLe_t]; omega) (pre _ false _ _ (by decide) (hK7 _ _ fun _ => if_f rfl ?_))
  intro K8 hK8
  refine if_t (by simp only [iLe_t]; omega) (pre _ true _ _ (by decide) (hK8 _ _ fun _ => if_t rfl ?_))
  refine ⟨by unfold inC; exact ⟨by omega, by show (k : Int) ≤ 64; omega⟩, ?_⟩
  have hcut : cutS (bs (List.replicate 64 48)) 0 k = bs (List.replicate k 48) := by
    rw [ba_eq, ByteArray.toList_eq, ByteArray.toList_eq, cutS_data, List.drop_zero]
    show (List.replicate 64 48).take k = List.replicate k 48
    rw [List.take_replicate, Nat.min_eq_left (by omega)]
  rw [Int.toNat_natCast]
  have := h w (Upd.refl _ _)
  rw [← hcut] at this
  exact this
theorem hex_el {n : Nat} {w : World} {K : Value → World → Prop} {X : List PanicEntry → World → Prop} (hw : Lw w) (hn : n < 18446744073709551616)
    (h : ∀ w', Ext w w' → K (.string (bs (hexText n))) w') : call P n_script_hex [.float .f64 n] w K X := by
  refine script_hex.call ?_
  unfold script_hex.F
  refine bits_el (X := X) ?_
  refine strconv_FormatUint.call ?_
  unfold strconv_FormatUint.F
  refine strconv_FormatUint_.call ?_
  unfold strconv_FormatUint_.F
  refine if_f (by decide) ?_
  refine formatBits_el hw hn fun w1 hx1 => ?_
  obtain ⟨h1, h2⟩ := hexFill_num 16 n (by decide) (by simpa using hn)
  have hpos := hexNum_len_pos n
  have hsz : ByteArray.size ⟨(hexNum n).toArray⟩ = (hexNum n).length := by rw [size_len]
  have e : iSub .i64 16 (lenN (ByteArray.size ⟨(hexNum n).toArray⟩)) = ((16 - (hexNum n).length : Nat) : Int) := by
    rw [hsz, lenN_el, iSub_i64 (by omega) (by omega)]; omega
  show call P n_strings_Repeat [.string (bs [48]), .int .i64 (iSub .i64 16 (lenN (ByteArray.size ⟨(hexNum n).toArray⟩)))] w1 _ X
  rw [e]
  refine repeat0_el (by omega) fun w2 hx2 => ?_
  refine ⟨?_, ?_⟩
  · unfold catOk
    rw [hsz, size_len]
    have : (bs (List.replicate (16 - (hexNum n).length) 48)).data.toList.length = 16 - (hexNum n).length := by simp [bs]
    omega
  · have hc : cat (bs (List.replicate (16 - (hexNum n).length) 48)) ⟨(hexNum n).toArray⟩ = bs (hexText n) := by
      rw [ba_eq, ByteArray.toList_eq, ByteArray.toList_eq]
      show (cat _ _).data.toList = hexText n
      rw [hexText, h2]
      simp [cat, bs]
    rw [hc]; exact h _ (hx1.trans hx2)
end Go.Proofs.YtgfbkmclekafbaaGreatDoor

/- A step's line: its words, its arguments. -/
set_option maxRecDepth 100000
namespace Go.Proofs.YtgfbkmclekafbaaGreatDoor
open Go Go.Vc

structure St where
  kind : Int
  node : Int
  n : Int
  key : Nat
  val : Nat
def St.cells (s : St) : List Value := [.int .i64 s.kind, .int .i64 s.node, .int .i64 s.n, .int .u64 s.key, .float .f64 s.val]
def St.v (s : St) : Value := .agg #[.int .i64 s.kind, .int .i64 s.node, .int .i64 s.n, .int .u64 s.key, .float .f64 s.val]
def wordAt : Nat → List UInt8
  | 1 => [112, 114, 111, 100, 117, 99, 101]
  | 2 => [115, 119, 105, 116, 99, 104]
  | 3 => [116, 105, 99, 107]
  | 4 => [100, 101, 108, 105, 118, 101, 114]
  | 5 => [100, 114, 111, 112]
  | 6 => [99, 111, 112, 121]
  | 7 => [99, 117, 116]
  | 8 => [99, 114, 97, 115, 104]
  | 9 => [114, 101, 115, 116, 97, 114, 116]
  | 10 => [113, 117, 101, 114, 121]
  | 11 => [114, 111, 117, 110, 100]
  | _ => []
def askAt : Nat → List UInt8
  | 1 => [110, 117, 118]
  | 2 => [110, 107]
  | 4 => [107]
  | 5 => [107]
  | 6 => [107]
  | 7 => [110, 107]
  | 8 => [110]
  | 9 => [110]
  | 10 => [117]
  | _ => []
def wordsV (k : Nat) : Value := .string (bs (wordAt k))
def asksV (k : Nat) : Value := .string (bs (askAt k))
def wordsA : List Value := [wordsV 0, asksV 0, wordsV 1, asksV 1, wordsV 2, asksV 2, wordsV 3, asksV 3, wordsV 4, asksV 4, wordsV 5, asksV 5, wordsV 6, asksV 6, wordsV 7, asksV 7, wordsV 8, asksV 8, wordsV 9, asksV 9, wordsV 10, asksV 10, wordsV 11, asksV 11]

theorem words_el {w : World} {K : Value → World → Prop} {X : List PanicEntry → World → Prop} (h : ∀ w', Ext w w' → K (.agg wordsA.toArray) w') : call P n_script_words [] w K X := by
  refine script_words.call ?_
  unfold script_words.F
  refine al_el fun b w1 hb hblk hx1 hsz1 => ?_
  refine st_el hblk (Nat.le_of_ble_eq_true (by kernel_rfl)) fun w2 h2 hu2 hsz2 => ?_
  have h3 : w2.heap[b]? = some (.cells wordsA.toArray 83 (0, 0)) := h2.trans (by kernel_rfl)
  have hx2 : Ext w w2 := Ext.upd hx1 hu2 (fun i hi => by rw [hi, hb]; exact Nat.le_refl _)
  iterate 24 refine ld_blk h3 rfl ?_
  exact h _ hx2

def setArg (s : St) (c : UInt8) (a : List UInt8) : Option St :=
  if c = 110 then (match num? a with | some x => some { s with node := x } | none => none)
  else if c = 107 then (match num? a with | some x => some { s with n := x } | none => none)
  else if c = 117 then (match key? a with | some x => some { s with key := x } | none => none)
  else if c = 118 then (match float? a with | some x => some { s with val := x } | none => none)
  else some s
def setArgs : St → List UInt8 → List (List UInt8) → Option St
  | s, [], _ => some s
  | s, c :: r, a :: xs => (match setArg s c a with | some s' => setArgs s' r xs | none => none)
  | _, _ :: _, [] => none
def kindIn (word : List UInt8) : Nat → Nat → Option Nat
  | 0, _ => none
  | m + 1, k => if wordAt k = word ∧ word ≠ [] then some k else kindIn word m (k + 1)
def stepSpec (word : List UInt8) (args : List (List UInt8)) : Except Int St := match kindIn word 12 0 with
  | none => .error 210
  | some k => if args.length = (askAt k).length then (match setArgs ⟨k, 0, 0, 0, 0⟩ (askAt k) args with | some s => .ok s | none => .error 211) else .error 211

theorem word_cases (k : Nat) (hk : k < 12) : (wordsA.toArray.extract (k * 2) (k * 2 + 2)) = #[wordsV k, asksV k] := by
  have : ∀ k : Fin 12, (wordsA.toArray.extract (k.val * 2) (k.val * 2 + 2)) = #[wordsV k.val, asksV k.val] := by
    intro k
    match k with
    | ⟨0, _⟩ => rfl
    | ⟨1, _⟩ => rfl
    | ⟨2, _⟩ => rfl
    | ⟨3, _⟩ => rfl
    | ⟨4, _⟩ => rfl
    | ⟨5, _⟩ => rfl
    | ⟨6, _⟩ => rfl
    | ⟨7, _⟩ => rfl
    | ⟨8, _⟩ => rfl
    | ⟨9, _⟩ => rfl
    | ⟨10, _⟩ => rfl
    | ⟨11, _⟩ => rfl
  exact this ⟨k, hk⟩
theorem ask_letters (k : Nat) : ∀ c ∈ askAt k, c = 110 ∨ c = 107 ∨ c = 117 ∨ c = 118 := by
  unfold askAt
  split <;> decide
theorem kindIn_lt : ∀ (m k : Nat) {word : List UInt8} {r : Nat}, kindIn word m k = some r → r < k + m
  | 0, k, word, r, h => by simp [kindIn] at h
  | m + 1, k, word, r, h => by
    unfold kindIn at h
    split at h
    · cases h; omega
    · have := kindIn_lt m (k + 1) h; omega

theorem st_cell {w : World} {b o : Nat} {cs : Array Value} {T : TypeId} {v : Value} {K : World → Prop} (h : w.heap[b]? = some (.cells cs T (0, 0))) (ho : o < cs.size)
    (hK : ∀ w1, w1.heap[b]? = some (.cells (cs.setIfInBounds o v) T (0, 0)) → Upd (fun i => i = b) w w1 → w1.heap.size = w.heap.size → K w1) : st w ⟨b, o, none⟩ [v] K := st1_el h ho hK

theorem agN_of {A B : Array Value} (h : A = B) {n : Nat} {K : Cur n} (hk : agN n (.agg B) K) : agN n (.agg A) K := by rw [h]; exact hk
theorem zero_add_pl (b : Nat) (i : Nat) : (⟨b, 0, none⟩ : Addr).add (scale i 1) = ⟨b, i, none⟩ := by rw [scale_eq, Nat.mul_one, add_pl, Nat.zero_add]

theorem step_el {s : ByteArray} {a : Option Addr} {l c : Nat} {args : List ByteArray} {w : World} {K : Value → World → Prop} {X : List PanicEntry → World → Prop} (hw : Lw w)
    (hargs : Cells w a (args.map Value.string)) (hl : l = args.length) (hsz : ∀ x ∈ args, x.size ≤ 281474976710656)
    (h1 : ∀ t w', stepSpec s.data.toList (args.map (·.data.toList)) = .ok t → Ext w w' → K t.v w')
    (h2 : ∀ e w', stepSpec s.data.toList (args.map (·.data.toList)) = .error e → Ext w w' → X (fault e) w') : call P n_script_step [.string s, .slice a l c] w K X := by
  refine script_step.call ?_
  unfold script_step.F
  refine al_el fun k1 w1 hk1 hblk1 hx1 hsz1 => ?_
  refine words_el fun w2 hx2 => ?_
  have hres2 := hx2.blk hblk1 (fun h => h)
  intro L hL
  suffices hh : ∀ (m k : Nat) (w3 : World), k + m = 12 → kindIn s.data.toList 12 0 = kindIn s.data.toList m k → Ext w w3 → w2.heap.size ≤ w3.heap.size → w3.heap[k1]? = some (.cells #[.int .i64 0, .int .i64 0, .int .i64 0, .int .u64 0, .float .f64 0] 46 (0, 0)) → L [.int .i64 (k : Int)] w3 from
    hh 12 0 w2 rfl rfl (hx1.trans hx2) (Nat.le_refl _) hres2
  intro m
  induction m with
  | zero =>
    intro k w3 hk hkind hx3 hsz3 hres3
    refine hL _ _ fun _ => if_f (by rw [iLt_f]; omega) ?_
    refine must_no (h2 210 w3 ?_ hx3)
    unfold stepSpec; rw [hkind]; rfl
  | succ m ih =>
    intro k w3 hk hkind hx3 hsz3 hres3
    refine hL _ _ fun _ => if_t (by rw [iLt_t]; omega) ⟨by unfold inB; omega, ?_⟩
    rw [scale_eq, Int.toNat_natCast]
    have hwc := word_cases k (by omega)
    have hnext : iAdd .i64 (k : Int) 1 = ((k + 1 : Nat) : Int) := by rw [iAdd_i64 (by omega) (by omega)]; omega
    rw [hnext]
    refine agN_of hwc ?_
    refine al_el fun k2 w4 hk2 hblk2 hx4 hsz4 => ?_
    refine st_el hblk2 (Nat.le_refl _) fun w5 h5 hu5 hsz5 => ?_
    have hblk5 : w5.heap[k2]? = some (.cells #[wordsV k, asksV k] 82 (0, 0)) := h5
    have hle1 : w1.heap.size ≤ w3.heap.size := Nat.le_trans hx2.size hsz3
    have hx5 : Ext w w5 := Ext.upd (hx3.trans hx4) hu5 (fun i hi => by rw [hi, hk2]; exact hx3.size)
    have hne12 : k1 ≠ k2 := by omega
    have hres5 := hu5.blk (hx4.blk hres3 (fun h => h)) hne12
    have hsz5' : w2.heap.size ≤ w5.heap.size := by rw [hsz5, hsz4]; omega
    refine ⟨by unfold inB; decide, ?_⟩
    rintro d rfl
    rw [show Int.toNat 0 = 0 from rfl, zero_add_pl]
    refine ld_blk hblk5 rfl ?_
    intro K1 hK1
    have skip : ¬ (wordAt k = s.data.toList ∧ s.data.toList ≠ []) → L [.int .i64 ((k + 1 : Nat) : Int)] w5 := by
      intro hno
      refine ih (k + 1) w5 (by omega) ?_ hx5 hsz5' hres5
      rw [hkind]
      show (if _ then _ else _) = _
      rw [if_neg hno]
    refine cnd_i (fun hne => hK1 _ _ fun _ => skip ?_) (fun heq => hK1 _ _ fun _ => cnd_i (fun he => skip ?_) (fun he => ?_))
    · rw [sNe_t] at hne
      rintro ⟨hw', _⟩; apply hne; rw [bs, mk_data]; exact hw'
    · rw [sEq_t] at he
      rintro ⟨_, hn⟩; apply hn; rw [he]; rfl
    rw [sNe_f, bs, mk_data] at heq
    rw [sEq_f] at he
    have hne : s.data.toList ≠ [] := by
      intro hh; apply he; symm; rw [bs, mk_data]; exact hh.symm
    have hkk : kindIn s.data.toList 12 0 = some k := by
      rw [hkind]
      show (if _ then _ else _) = _
      rw [if_pos ⟨heq, hne⟩]
    refine ⟨by unfold inB; decide, ?_⟩
    rintro d rfl
    rw [show Int.toNat 1 = 1 from rfl, zero_add_pl]
    refine ld_blk hblk5 rfl ?_
    have hask : (bs (askAt k)).size = (askAt k).length := by rw [size_len]; rfl
    show call P _ [.bool (iEq (lenN l) (lenN (bs (askAt k)).size)), _] _ _ _
    rw [hask]
    refine must_el (fun hlen => ?_) (fun hlen => h2 211 w5 ?_ hx5)
    rotate_left
    · rw [iEq_f, lenN_el, lenN_el] at hlen
      unfold stepSpec; rw [hkk]
      show (if _ then _ else _) = _
      rw [if_neg (by rw [List.length_map]; omega)]
    rw [iEq_t, lenN_el, lenN_el] at hlen
    refine al_el fun k3 w6 hk3 hblk3 hx6 hsz6 => ?_
    refine st_el hblk3 (Nat.le_refl _) fun w7 h7 hu7 hsz7 => ?_
    have hblk7 : w7.heap[k3]? = some (.cells (St.cells ⟨k, 0, 0, 0, 0⟩).toArray 46 (0, 0)) := h7
    have hx7 : Ext w w7 := Ext.upd (hx5.trans hx6) hu7 (fun i hi => by rw [hi, hk3]; exact hx5.size)
    have hne13 : k1 ≠ k3 := by omega
    have hne23 : k2 ≠ k3 := by omega
    have hres7 := hu7.blk (hx6.blk hres5 (fun h => h)) hne13
    have hask7 := hu7.blk (hx6.blk hblk5 (fun h => h)) hne23
    refine ⟨by unfold inB; decide, ?_⟩
    rintro d rfl
    refine ld_blk (v := .string (bs (askAt k))) hask7 rfl ?_
    rw [asS_at]
    refine range_str (P := P) Go.Proofs.Tryz.underlying9 fun k4 w8 hk4 hit8 hx8 hsz8 => ?_
    have hne34 : k3 ≠ k4 := by omega
    have hne14 : k1 ≠ k4 := by omega
    intro L2 hL2
    suffices hh : ∀ (r pre : List UInt8) (t : St) (w9 : World), pre ++ r = askAt k → setArgs ⟨k, 0, 0, 0, 0⟩ (askAt k) (args.map (·.data.toList)) = setArgs t r ((args.map (·.data.toList)).drop pre.length) →
        Ext w w9 → w9.heap[k3]? = some (.cells t.cells.toArray 46 (0, 0)) → w9.heap[k4]? = some (.stringIter (bs (askAt k)) pre.length) →
        w9.heap[k1]? = some (.cells #[.int .i64 0, .int .i64 0, .int .i64 0, .int .u64 0, .float .f64 0] 46 (0, 0)) → L2 [] w9 from
      hh _ [] _ w8 rfl rfl (hx7.trans hx8) (hx8.blk hblk7 (fun h => h)) hit8 (hx8.blk hres7 (fun h => h))
    intro r
    induction r with
    | nil =>
      intro pre t w9 hpre hset hx9 hst9 hit9 hres9
      rw [List.append_nil] at hpre
      refine hL2 _ fun _ => ?_
      refine next_end hit9 (by rw [hask, hpre]; omega) ?_
      iterate 5 refine ld_blk hst9 rfl ?_
      refine st_el hres9 (Nat.le_refl _) fun w10 h10 hu10 hsz10 => ?_
      have hb10 : w10.heap[k1]? = some (.cells t.cells.toArray 46 (0, 0)) := h10
      iterate 5 refine ld_blk hb10 rfl ?_
      refine h1 t w10 ?_ (Ext.upd hx9 hu10 (fun i hi => by rw [hi, hk1]; exact Nat.le_refl _))
      unfold stepSpec; rw [hkk]
      show (if _ then _ else _) = _
      rw [if_pos (by rw [List.length_map]; omega), hset]
      rfl
    | cons c r ihr =>
      intro pre t w9 hpre hset hx9 hst9 hit9 hres9
      have hc : (bs (askAt k)).data.toList[pre.length]? = some c := by
        show (askAt k)[pre.length]? = some c
        rw [← hpre]; simp
      have hmem : c ∈ askAt k := by rw [← hpre]; simp
      have hcc := ask_letters k c hmem
      have hplen : pre.length < args.length := by
        have : pre.length + (r.length + 1) = (askAt k).length := by rw [← hpre]; simp
        omega
      obtain ⟨x, hx⟩ : ∃ x, args[pre.length]? = some x := ⟨_, List.getElem?_eq_getElem hplen⟩
      have hxs := hsz x (List.mem_of_getElem? hx)
      have hdrop : (args.map (·.data.toList)).drop pre.length = x.data.toList :: (args.map (·.data.toList)).drop (pre ++ [c]).length := by
        rw [List.length_append, List.length_singleton]
        have hlt : pre.length < (args.map (·.data.toList)).length := by simpa using hplen
        rw [List.drop_eq_getElem_cons hlt]
        congr 1
        rw [List.getElem_map]
        obtain ⟨_, he⟩ := List.getElem?_eq_some_iff.1 hx
        rw [he]
      rw [hdrop] at hset
      have fail : setArg t c x.data.toList = none → ∀ w', Ext w w' → X (fault 211) w' := by
        intro hno w' hxw
        refine h2 211 w' ?_ hxw
        unfold stepSpec; rw [hkk]
        show (if _ then _ else _) = _
        rw [if_pos (by rw [List.length_map]; omega), hset]
        unfold setArgs; rw [hno]
      refine hL2 _ fun _ => ?_
      refine next_letter hit9 hc (by rcases hcc with rfl | rfl | rfl | rfl <;> decide) fun w10 hit10 hu10 hsz10 => ?_
      have hx10 : Ext w w10 := Ext.upd hx9 hu10 (fun i hi => by rw [hi, hk4]; exact hx7.size)
      have hw10 := hw.ext hx10
      have hargs10 := hargs.ext hx10
      have hst10 := hu10.blk hst9 hne34
      have hres10 := hu10.blk hres9 hne14
      -- behind the argument
      have on : ∀ (o : Nat) (v : Value) (t' : St) (w11 : World), setArg t c x.data.toList = some t' → (t.cells.toArray.setIfInBounds o v) = t'.cells.toArray → o < 5 → Ext w10 w11 → st w11 ⟨k3, o, none⟩ [v] fun w12 => L2 [] w12 := by
        intro o v t' w11 hsome hcells ho hx11
        refine st_cell (hx11.blk hst10 (fun h => h)) (by show o < 5; exact ho) fun w12 h12 hu12 hsz12 => ?_
        rw [hcells] at h12
        refine ihr (pre ++ [c]) t' w12 (by rw [List.append_assoc]; exact hpre) ?_ (Ext.upd (hx10.trans hx11) hu12 (fun i hi => by rw [hi, hk3]; exact hx5.size)) h12 (by
          rw [List.length_append, List.length_singleton]
          exact hu12.blk (hx11.blk hit10 (fun h => h)) (fun h => hne34 h.symm)) (hu12.blk (hx11.blk hres10 (fun h => h)) hne13)
        rw [hset]
        conv => lhs; unfold setArgs
        rw [hsome]
      simp only [asI_at]
      rcases hcc with rfl | rfl | rfl | rfl
      · refine if_t rfl (idx_str hargs10 hl hx (number_el hw10 hxs (fun n w11 hn hx11 => ?_) (fun w11 hn hx11 => ?_)))
        · exact on 1 _ _ w11 (by unfold setArg; rw [if_pos rfl, hn]) rfl (by decide) hx11
        · exact fail (by unfold setArg; rw [if_pos rfl, hn]) w11 (hx10.trans hx11)
      · refine if_f rfl (if_t rfl (idx_str hargs10 hl hx (number_el hw10 hxs (fun n w11 hn hx11 => ?_) (fun w11 hn hx11 => ?_))))
        · exact on 2 _ _ w11 (by unfold setArg; rw [if_neg (by decide), if_pos rfl, hn]) rfl (by decide) hx11
        · exact fail (by unfold setArg; rw [if_neg (by decide), if_pos rfl, hn]) w11 (hx10.trans hx11)
      · refine if_f rfl (if_f rfl (if_t rfl (idx_str hargs10 hl hx (key_el hw10 hxs (fun n w11 hn hx11 => ?_) (fun w11 hn hx11 => ?_)))))
        · exact on 3 _ _ w11 (by unfold setArg; rw [if_neg (by decide), if_neg (by decide), if_pos rfl, hn]) rfl (by decide) hx11
        · exact fail (by unfold setArg; rw [if_neg (by decide), if_neg (by decide), if_pos rfl, hn]) w11 (hx10.trans hx11)
      · refine if_f rfl (if_f rfl (if_f rfl (if_t rfl (idx_str hargs10 hl hx (float_el hxs (fun n w11 hn hx11 => ?_) (fun w11 hn hx11 => ?_))))))
        · exact on 4 _ _ w11 (by unfold setArg; rw [if_neg (by decide), if_neg (by decide), if_neg (by decide), if_pos rfl, hn]) rfl (by decide) hx11
        · exact fail (by unfold setArg; rw [if_neg (by decide), if_neg (by decide), if_neg (by decide), if_pos rfl, hn]) w11 (hx10.trans hx11)
end Go.Proofs.YtgfbkmclekafbaaGreatDoor

/- A line of a script: what it does to the reader. -/
set_option maxRecDepth 100000
namespace Go.Proofs.YtgfbkmclekafbaaGreatDoor
open Go Go.Vc

structure OpR where
  kind : Int
  n : Int
  x : Nat
def OpR.cells (o : OpR) : List Value := [.int .i64 o.kind, .int .i64 o.n, .float .f64 o.x]
structure PlanR where
  p0 : Int
  p1 : Int
  p2 : Int
  ops : List OpR
  p4 : Int
  p5 : Int
  p6 : Int
  p7 : Int
def opsCells (l : List OpR) : List Value := (l.map OpR.cells).flatten
def stepsCells (l : List St) : List Value := (l.map St.cells).flatten
theorem opsCells_len (l : List OpR) : (opsCells l).length = l.length * 3 := by
  induction l with
  | nil => rfl
  | cons o l ih => simp only [opsCells, List.map_cons, List.flatten_cons, List.length_append] at ih ⊢; rw [ih]; simp [OpR.cells]; omega
theorem stepsCells_len (l : List St) : (stepsCells l).length = l.length * 5 := by
  induction l with
  | nil => rfl
  | cons o l ih => simp only [stepsCells, List.map_cons, List.flatten_cons, List.length_append] at ih ⊢; rw [ih]; simp [St.cells]; omega
/-- a plan's eight cells -/
def PlanR.cells (p : PlanR) (q : Option Addr) (l c : Nat) : List Value := [.int .i64 p.p0, .int .i64 p.p1, .int .i64 p.p2, .slice q l c, .int .i64 p.p4, .int .i64 p.p5, .int .i64 p.p6, .int .i64 p.p7]
def rdCells (p : PlanR) (oq : Option Addr) (ol oc : Nat) (sq : Option Addr) (sl sc : Nat) (began : Bool) : List Value := p.cells oq ol oc ++ [.slice sq sl sc, .bool began]
structure RS where
  p : PlanR
  steps : List St
  began : Bool
/-- the reader, at block b; its rows lie from N on -/
def ROK (w : World) (N b : Nat) (r : RS) : Prop := ∃ oq ol oc sq sl sc, w.heap[b]? = some (.cells (rdCells r.p oq ol oc sq sl sc r.began).toArray 72 (0, 0)) ∧
  Row w 49 3 oq ol oc (opsCells r.p.ops) ∧ Row w 46 5 sq sl sc (stepsCells r.steps) ∧ ol = r.p.ops.length ∧ sl = r.steps.length ∧
  b < N ∧ (∀ x, blkOf oq = some x → N ≤ x) ∧ (∀ x, blkOf sq = some x → N ≤ x) ∧ (∀ x, blkOf oq = some x → blkOf sq ≠ some x)

def blanks (s : ByteArray) : List ByteArray := Lib.splitB (bs [32]) 0 (Lib.countB s (bs [32])) s
def setField (p : PlanR) (i : Nat) (x : Int) : PlanR := match i with
  | 0 => { p with p0 := x }
  | 1 => { p with p1 := x }
  | 2 => { p with p2 := x }
  | 3 => { p with p4 := x }
  | 4 => { p with p5 := x }
  | 5 => { p with p6 := x }
  | _ => { p with p7 := x }
def setNums : PlanR → Nat → List ByteArray → Option PlanR
  | p, _, [] => some p
  | p, i, a :: r => (match num? a.data.toList with | some x => setNums (setField p i x) (i + 1) r | none => none)
def opOf : List ByteArray → Option OpR
  | [a, b, c] => (match num? a.data.toList, num? b.data.toList, float? c.data.toList with | some k, some n, some x => some ⟨k, n, x⟩ | _, _, _ => none)
  | _ => none
def planWord : List UInt8 := [112, 108, 97, 110]
def opWord : List UInt8 := [111, 112]
/-- what a line does -/
def lineSpec (r : RS) : List ByteArray → Except Int RS
  | [] => .error 0
  | word :: args =>
    if r.began = false then
      (if word.data.toList = planWord then (if args.length = 7 then (match setNums r.p 0 args with | some p => .ok { r with p := p, began := true } | none => .error 211) else .error 211) else .error 210)
    else if word.data.toList = opWord ∧ r.steps = [] then
      (match opOf args with | some o => .ok { r with p := { r.p with ops := r.p.ops ++ [o] } } | none => .error 211)
    else if r.steps.length < 4096 then
      (match stepSpec word.data.toList (args.map (·.data.toList)) with | .ok t => .ok { r with steps := r.steps ++ [t] } | .error e => .error e)
    else .error 212

theorem splitB_size (sep : ByteArray) : ∀ (k : Nat) (s x : ByteArray), x ∈ Lib.splitB sep 0 k s → x.size ≤ s.size
  | 0, s, x, h => by rw [Lib.splitB_zero] at h; simp at h; rw [h]; exact Nat.le_refl _
  | k + 1, s, x, h => by
    unfold Lib.splitB at h
    split at h
    · simp at h; rw [h]; exact Nat.le_refl _
    · rcases List.mem_cons.1 h with rfl | h
      · rw [ByteArray.size_extract]; omega
      · have := splitB_size sep k _ x h
        rw [ByteArray.size_extract] at this; omega
theorem blanks_cons (s : ByteArray) (hs : s.size < 4294967281) : ∃ word args, blanks s = word :: args ∧ args.length = Lib.countB s (bs [32]) ∧ word.size ≤ s.size ∧ ∀ x ∈ args, x.size ≤ s.size := by
  have hl : (blanks s).length = Lib.countB s (bs [32]) + 1 := Lib.splitB_all (bs [32]) (by decide) 0 _ s rfl
  cases hb : blanks s with
  | nil => rw [hb] at hl; simp at hl
  | cons word args =>
    rw [hb] at hl
    have hall : ∀ x ∈ blanks s, x.size ≤ s.size := fun x hx => splitB_size _ _ s x hx
    rw [hb] at hall
    exact ⟨word, args, rfl, by simpa using hl, hall word (by simp), fun x hx => hall x (by simp [hx])⟩

theorem setField_cells (p : PlanR) (oq : Option Addr) (ol oc : Nat) (sq : Option Addr) (sl sc : Nat) (began : Bool) (i : Nat) (hi : i < 7) (x : Int) :
    (rdCells p oq ol oc sq sl sc began).toArray.setIfInBounds (if i < 3 then i else i + 1) (.int .i64 x) = (rdCells (setField p i x) oq ol oc sq sl sc began).toArray := by
  have : ∀ i : Fin 7, (rdCells p oq ol oc sq sl sc began).toArray.setIfInBounds (if i.val < 3 then i.val else i.val + 1) (.int .i64 x) = (rdCells (setField p i.val x) oq ol oc sq sl sc began).toArray := by
    intro i
    match i with
    | ⟨0, _⟩ => rfl
    | ⟨1, _⟩ => rfl
    | ⟨2, _⟩ => rfl
    | ⟨3, _⟩ => rfl
    | ⟨4, _⟩ => rfl
    | ⟨5, _⟩ => rfl
    | ⟨6, _⟩ => rfl
  exact this ⟨i, hi⟩
theorem setField_ops (p : PlanR) (i : Nat) (x : Int) : (setField p i x).ops = p.ops := by unfold setField; split <;> rfl
theorem setNums_ops : ∀ (l : List ByteArray) (p : PlanR) (i : Nat) {q : PlanR}, setNums p i l = some q → q.ops = p.ops
  | [], p, i, q, h => by simp only [setNums, Option.some.injEq] at h; rw [h]
  | a :: r, p, i, q, h => by
    unfold setNums at h
    split at h
    · rw [setNums_ops r _ _ h, setField_ops]
    · cases h

theorem line_el {b N : Nat} {r : RS} {s : ByteArray} {w : World} {K : Value → World → Prop} {X : List PanicEntry → World → Prop} (hw : Lw w) (hN : 9 ≤ N) (hNw : N ≤ w.heap.size) (hb9 : 9 ≤ b) (hr : ROK w N b r) (hs : s.size < 4294967281)
    (hops : r.p.ops.length < 4294967281)
    (h1 : ∀ r' w', lineSpec r (blanks s) = .ok r' → ROK w' N b r' → Upd (fun i => i = b ∨ N ≤ i) w w' → K (.tuple #[]) w')
    (h2 : ∀ e w', lineSpec r (blanks s) = .error e → Upd (fun i => i = b ∨ N ≤ i) w w' → X (fault e) w') : call P n_script_reader_line [.pointer (some ⟨b, 0, none⟩), .string s] w K X := by
  obtain ⟨oq, ol, oc, sq, sl, sc, hrd, horow, hsrow, hol, hsl, hbN, hoN, hsN, hos⟩ := hr
  obtain ⟨word, args, hbl, hcount, hwsz, hasz⟩ := blanks_cons s hs
  obtain ⟨m, hm⟩ := hw.cut
  refine script_reader_line.call ?_
  unfold script_reader_line.F
  refine call_calls (Tryz.strings_Split s (bs [32]) m w hs hm (by decide)) ?_
  rintro e w1 ⟨rfl, hw1⟩
  have hx1 : Ext w w1 := by rw [hw1]; exact Upd.alloc _
  have hq1 : w1.heap[w.heap.size]? = some (.cells ((word :: args).map Value.string).toArray 9 (0, 0)) := by
    rw [hw1, ← hbl]; exact Array.getElem?_push_size
  have hsz1 : w1.heap.size = w.heap.size + 1 := by rw [hw1]; exact Array.size_push _
  rw [← hcount]
  have hargs1 : Cells w1 (slA (some ⟨w.heap.size, 0, none⟩) 1 (args.length + 1) 1) (args.map Value.string) := cells_tail hq1 (by simp)
  have hrd1 := hx1.blk hrd (fun h => h)
  have horow1 := horow.ext hx1
  have hsrow1 := hsrow.ext hx1
  have hw1' := hw.ext hx1
  have tolift : ∀ {w' : World}, Ext w w' → Upd (fun i => i = b ∨ N ≤ i) w w' := fun h => h.to
  refine ⟨by unfold inB; omega, ?_⟩
  rintro d rfl
  rw [show Int.toNat 0 = 0 from rfl, zero_add_pl]
  refine ld_blk hq1 (v := .string word) rfl ?_
  refine ⟨by unfold inC; omega, ?_⟩
  refine ld_add hrd1 (v := .bool r.began) rfl ?_
  simp only [asB_at, show Int.toNat 1 = 1 from rfl, sb, Nat.add_sub_cancel, lenN_el]
  refine cnd_i (fun hbeg => ?_) (fun hbeg => ?_)
  · have hbeg' : r.began = false := by simpa using hbeg
    have hspec : lineSpec r (blanks s) = (if word.data.toList = planWord then (if args.length = 7 then (match setNums r.p 0 args with | some p => .ok { r with p := p, began := true } | none => .error 211) else .error 211) else .error 210) := by
      rw [hbl]
      show (if r.began = false then _ else _) = _
      rw [if_pos hbeg']
    refine must_el (fun hpl => ?_) (fun hpl => h2 210 w1 ?_ (tolift hx1))
    rotate_left
    · rw [sEq_f] at hpl
      rw [hspec, if_neg]; intro hh; apply hpl; symm; rw [bs, mk_data]; exact hh.symm
    rw [sEq_t] at hpl
    have hpl' : word.data.toList = planWord := by rw [hpl]; rfl
    refine must_el (fun h7 => ?_) (fun h7 => h2 211 w1 ?_ (tolift hx1))
    rotate_left
    · rw [hspec, if_pos hpl', if_neg]; intro hh; rw [iEq_f] at h7; omega
    rw [iEq_t] at h7
    have h7' : args.length = 7 := by omega
    have hspec7 : lineSpec r (blanks s) = (match setNums r.p 0 args with | some p => .ok { r with p := p, began := true } | none => .error 211) := by
      rw [hspec, if_pos hpl', if_pos h7']
    refine st_add hrd1 (by show 9 < 10; decide) fun w5 h5 hu5 hsz5 => ?_
    have hrd5 : w5.heap[b]? = some (.cells (rdCells r.p oq ol oc sq sl sc true).toArray 72 (0, 0)) := h5
    rintro w6 hw6
    have hx6 : Ext w5 w6 := by rw [hw6]; exact Ext.drew
    refine al_el fun k1 w7 hk1 hblk7 hx7 hsz7 => ?_
    have hbk1 : b ≠ k1 := by have := hx6.size; omega
    have hu7 : Upd (fun i => i = b ∨ N ≤ i) w w7 := ((tolift hx1).trans (hu5.mono fun i _ hi => .inl hi)).trans (Ext.to (hx6.trans hx7))
    have hrd7 := Upd.blk (hx6.trans hx7) hrd5 (fun h => h)
    have hptr : ∀ i, i < 7 → ∀ w9 : World, w9.heap[k1]? = w7.heap[k1]? → w9.cell? ⟨k1, i, none⟩ = some (.pointer (some ⟨b, if i < 3 then i else i + 1, none⟩)) := by
      intro i hi w9 h9
      rw [hblk7] at h9
      refine cell_blk h9 ?_
      have : ∀ i : Fin 7, (#[.pointer (some ⟨b, 0, none⟩), .pointer (some (Addr.add ⟨b, 0, none⟩ 1)), .pointer (some (Addr.add ⟨b, 0, none⟩ 2)), .pointer (some (Addr.add ⟨b, 0, none⟩ 4)), .pointer (some (Addr.add ⟨b, 0, none⟩ 5)), .pointer (some (Addr.add ⟨b, 0, none⟩ 6)), .pointer (some (Addr.add ⟨b, 0, none⟩ 7))] : Array Value)[i.val]? = some (.pointer (some ⟨b, if i.val < 3 then i.val else i.val + 1, none⟩)) := by
        intro i
        match i with
        | ⟨0, _⟩ => rfl
        | ⟨1, _⟩ => rfl
        | ⟨2, _⟩ => rfl
        | ⟨3, _⟩ => rfl
        | ⟨4, _⟩ => rfl
        | ⟨5, _⟩ => rfl
        | ⟨6, _⟩ => rfl
      exact this ⟨i, hi⟩
    intro L hL
    have hargs7 : Cells w7 (slA (some ⟨w.heap.size, 0, none⟩) 1 (args.length + 1) 1) (args.map Value.string) := by
      refine (hargs1.upd hu5 ?_).ext (hx6.trans hx7)
      intro d hd hdb
      have := slA_blk hd; omega
    suffices hh : ∀ (rest : List ByteArray) (i : Nat) (p : PlanR) (w9 : World), i + rest.length = 7 → args.drop i = rest → setNums r.p 0 args = setNums p i rest → p.ops = r.p.ops →
        Upd (fun j => j = b) w7 w9 → w9.heap[b]? = some (.cells (rdCells p oq ol oc sq sl sc true).toArray 72 (0, 0)) → L [.int .i64 (i : Int)] w9 from
      hh args 0 r.p w7 (by omega) rfl rfl rfl (Upd.refl _ _) hrd7
    intro rest
    induction rest with
    | nil =>
      intro i p w9 hi hdrop hset hpo hu9 hrd9
      refine hL _ _ fun _ => if_f (by rw [iLt_f]; simp at hi; omega) ?_
      have huall : Upd (fun i => i = b ∨ N ≤ i) w w9 := hu7.trans (hu9.mono fun i _ hi => .inl hi)
      have hnb : ∀ {q : Option Addr}, (∀ x, blkOf q = some x → N ≤ x) → ∀ x, blkOf q = some x → ¬ (x = b) := fun h x hx he => by have := h x hx; omega
      refine h1 { r with p := p, began := true } w9 (by rw [hspec7, hset]; rfl) ⟨oq, ol, oc, sq, sl, sc, hrd9, ?_, ?_, ?_, hsl, hbN, hoN, hsN, hos⟩ huall
      · rw [hpo]
        exact (((horow1.upd hu5 (hnb hoN)).ext (hx6.trans hx7)).upd hu9 (hnb hoN))
      · exact (((hsrow1.upd hu5 (hnb hsN)).ext (hx6.trans hx7)).upd hu9 (hnb hsN))
      · rw [hpo]; exact hol
    | cons x rest ih =>
      intro i p w9 hi hdrop hset hpo hu9 hrd9
      have hi7 : i < 7 := by simp at hi; omega
      refine hL _ _ fun _ => if_t (by rw [iLt_t]; omega) ⟨by unfold inB; omega, ?_⟩
      rintro d rfl
      rw [Int.toNat_natCast, zero_add_pl]
      refine ld_cell (hptr i hi7 w9 (hu9.block k1 (blk_lt hblk7) (fun h => hbk1 h.symm))) ?_
      have hxi : args[i]? = some x := by
        have : (args.drop i)[0]? = some x := by rw [hdrop]; rfl
        simpa using this
      have hxmem := List.mem_of_getElem? hxi
      have huw9 : Upd (fun i => i = b ∨ N ≤ i) w w9 := hu7.trans (hu9.mono fun i _ hi => .inl hi)
      have hw9 : Lw w9 := hw.upd huw9 (fun i hi hh => by omega)
      have hargs9 : Cells w9 (slA (some ⟨w.heap.size, 0, none⟩) 1 (args.length + 1) 1) (args.map Value.string) := by
        refine hargs7.upd hu9 ?_
        intro d hd hdb
        have := slA_blk hd; omega
      refine idx_str hargs9 rfl hxi ?_
      refine number_el hw9 (by have := hasz x hxmem; omega) (fun n w10 hn hx10 => ?_) (fun w10 hn hx10 => ?_)
      · refine st1_el (hx10.blk hrd9 (fun h => h)) (by show _ < 10; split <;> omega) fun w11 h11 hu11 hsz11 => ?_
        rw [setField_cells p oq ol oc sq sl sc true i hi7 n] at h11
        have hnext : iAdd .i64 (i : Int) 1 = ((i + 1 : Nat) : Int) := by rw [iAdd_i64 (by omega) (by omega)]; omega
        rw [hnext]
        refine ih (i + 1) (setField p i n) w11 (by simp at hi; omega) ?_ ?_ (by rw [setField_ops]; exact hpo) ((hu9.trans (Ext.to hx10)).trans hu11) h11
        · rw [← List.drop_drop, hdrop]; rfl
        · rw [hset]; conv => lhs; unfold setNums
          rw [hn]
      · refine h2 211 w10 ?_ (huw9.trans (Ext.to hx10))
        rw [hspec7, hset]
        unfold setNums; rw [hn]
  · have hbeg' : r.began = true := by simpa using hbeg
    have hnb : ∀ {q : Option Addr}, (∀ x, blkOf q = some x → N ≤ x) → ∀ x, blkOf q = some x → ¬ (x = b) := fun h x hx he => by have := h x hx; omega
    have hob : ¬ (blkOf oq = some b) := fun h => by have := hoN b h; omega
    have hsb : ¬ (blkOf sq = some b) := fun h => by have := hsN b h; omega
    intro K1 hK1
    have join : ∀ b2 : Bool, (b2 = true → word.data.toList = opWord ∧ r.steps = []) → (b2 = false → ¬ (word.data.toList = opWord ∧ r.steps = [])) → K1 [.bool b2] w1 := by
      intro b2 ht hf
      refine hK1 _ _ fun _ => cnd_i (fun hb => ?_) (fun hb => ?_)
      · have hop := ht hb
        have hspec : lineSpec r (blanks s) = (match opOf args with | some o => .ok { r with p := { r.p with ops := r.p.ops ++ [o] } } | none => .error 211) := by
          rw [hbl]
          show (if r.began = false then _ else _) = _
          rw [if_neg (by rw [hbeg']; decide), if_pos hop]
        refine must_el (fun h3 => ?_) (fun h3 => h2 211 w1 ?_ (tolift hx1))
        rotate_left
        · rw [iEq_f] at h3
          rw [hspec]
          have : opOf args = none := by
            unfold opOf
            split
            · simp at h3
            · rfl
          rw [this]
        rw [iEq_t] at h3
        obtain ⟨a0, a1, a2, rfl⟩ : ∃ a0 a1 a2, args = [a0, a1, a2] := by
          match args, h3 with
          | [a0, a1, a2], _ => exact ⟨a0, a1, a2, rfl⟩
        rintro w15 hw15
        have hx15 : Ext w1 w15 := by rw [hw15]; exact Ext.drew
        have hargs15 := hargs1.ext hx15
        have hrd15 := hx15.blk hrd1 (fun h => h)
        refine idx_str2 (i := 0) hargs15 rfl rfl fun d0 hd0 => ?_
        refine idx_str2 (i := 1) hargs15 rfl rfl fun d1 hd1 => ?_
        refine idx_str2 (i := 2) hargs15 rfl rfl fun d2 hd2 => ?_
        refine ld_cell hd0 (ld_cell hd1 (ld_cell hd2 ?_))
        refine ld_add hrd15 (v := .slice oq ol oc) rfl ?_
        have hw15' := hw1'.ext hx15
        have fail : opOf [a0, a1, a2] = none → ∀ w', Ext w1 w' → X (fault 211) w' := fun hno w' hx' => h2 211 w' (by rw [hspec, hno]) (tolift (hx1.trans hx'))
        refine number_el hw15' (by have := hasz a0 (by simp); omega) (fun k w16 hk hx16 => ?_) (fun w16 hk hx16 => fail (by simp [opOf, hk]) w16 (hx15.trans hx16))
        refine ⟨hx16.cell hd1 (fun h => h), hx16.cell hd2 (fun h => h), hx16.cell (cell_add hrd15 rfl) (fun h => h), ?_⟩
        refine number_el (hw15'.ext hx16) (by have := hasz a1 (by simp); omega) (fun n w17 hn hx17 => ?_) (fun w17 hn hx17 => fail (by simp [opOf, hk, hn]) w17 ((hx15.trans hx16).trans hx17))
        have hx17' := hx16.trans hx17
        refine ⟨hx17'.cell hd2 (fun h => h), hx17'.cell (cell_add hrd15 rfl) (fun h => h), ?_⟩
        refine float_el (by have := hasz a2 (by simp); omega) (fun x w18 hx hx18 => ?_) (fun w18 hx hx18 => fail (by simp [opOf, hk, hn, hx]) w18 ((hx15.trans hx17').trans hx18))
        have hx18' := hx17'.trans hx18
        refine ⟨hx18'.cell (cell_add hrd15 rfl) (fun h => h), ?_⟩
        refine al_el fun k2 w19 hk2 hblk2 hx19 hsz19 => ?_
        have hx19' := hx18'.trans hx19
        refine ⟨hx19'.cell (cell_add hrd15 rfl) (fun h => h), ?_⟩
        have hxw : Ext w w19 := (hx1.trans hx15).trans hx19'
        obtain ⟨i, hi, hsize, hby, hz⟩ := info_of (P := P) (e := 49) (size := 3) (bytes := 24) (z := .agg #[.int .i64 0, .int .i64 0, .float .f64 0]) (by kernel_rfl) (by kernel_rfl)
        have hnews : Cells w19 (some ⟨k2, 0, none⟩) (OpR.cells ⟨k, n, x⟩) := .inr ⟨_, rfl, rfl, fun j hj => by
          rw [add_pl]; refine cell_blk hblk2 ?_
          rw [Nat.zero_add, ← Array.getElem?_toList]; exact List.getElem?_eq_getElem hj⟩
        refine append_row (size := 3) (bytes := 24) Go.Proofs.Tryz.underlying22 hi hz hsize hby rfl (by decide) (horow.ext hxw) (m := 1) rfl hnews (by intro u hu; simp only [OpR.cells, List.mem_cons, List.not_mem_nil, or_false] at hu; rcases hu with rfl | rfl | rfl <;> rfl) (by decide) (by unfold maxLen; omega) (by omega) fun oq' oc' w21 hrow' hu21 hfr21 => ?_
        have hrd21 := hu21.blk (Upd.blk hxw hrd (fun h => h)) hob
        refine st_add hrd21 (by show 3 < 10; decide) fun w22 h22 hu22 hsz22 => ?_
        have hN19 : N ≤ w19.heap.size := Nat.le_trans hNw hxw.size
        have hofr : ∀ x, blkOf oq' = some x → N ≤ x := fun x hx => by rcases hfr21 x hx with h | h; exact hoN x h; omega
        refine h1 { r with p := { r.p with ops := r.p.ops ++ [⟨k, n, x⟩] } } w22 (by rw [hspec]; simp [opOf, hk, hn, hx]) ?_ (((tolift hxw).trans (hu21.mono fun i _ hi => .inr (hoN i hi))).trans (hu22.mono fun i _ hi => .inl hi))
        refine ⟨oq', ol + 1, oc', sq, sl, sc, h22, ?_, ?_, ?_, hsl, hbN, hofr, hsN, ?_⟩
        · have e : opsCells (r.p.ops ++ [⟨k, n, x⟩]) = opsCells r.p.ops ++ OpR.cells ⟨k, n, x⟩ := by simp [opsCells]
          show Row w22 _ 3 oq' (ol + 1) oc' (opsCells (r.p.ops ++ [⟨k, n, x⟩]))
          rw [e]
          exact hrow'.upd hu22 (hnb hofr)
        · exact ((hsrow.ext hxw).upd hu21 (fun x hx hh => hos x hh hx)).upd hu22 (hnb hsN)
        · show ol + 1 = (r.p.ops ++ [_]).length
          rw [List.length_append, hol]; rfl
        · intro x hx hh
          rcases hfr21 x hx with h | h
          · exact hos x h hh
          · have := hsrow.lt hh
            have := hxw.size; omega
      · have hnop := hf hb
        have hspec : lineSpec r (blanks s) = (if r.steps.length < 4096 then (match stepSpec word.data.toList (args.map (·.data.toList)) with | .ok t => .ok { r with steps := r.steps ++ [t] } | .error e => .error e) else .error 212) := by
          rw [hbl]
          show (if r.began = false then _ else _) = _
          rw [if_neg (by rw [hbeg']; decide), if_neg hnop]
        refine ld_add hrd1 (v := .slice sq sl sc) rfl ?_
        refine must_el (fun hlt => ?_) (fun hlt => h2 212 w1 ?_ (tolift hx1))
        rotate_left
        · rw [iLt_f] at hlt
          rw [hspec, if_neg (by omega)]
        rw [iLt_t] at hlt
        rw [if_pos (by omega)] at hspec
        rintro w25 hw25
        have hx25 : Ext w1 w25 := by rw [hw25]; exact Ext.drew
        have hrd25 := hx25.blk hrd1 (fun h => h)
        refine ld_add hrd25 (v := .slice sq sl sc) rfl ?_
        refine step_el (hw1'.ext hx25) (hargs1.ext hx25) rfl (fun x hx => by have := hasz x hx; omega) (fun t w26 ht hx26 => ?_) (fun e w26 he hx26 => h2 e w26 (by rw [hspec, he]) (tolift ((hx1.trans hx25).trans hx26)))
        refine ⟨hx26.cell (cell_add hrd25 rfl) (fun h => h), ?_⟩
        refine al_el fun k3 w27 hk3 hblk3 hx27 hsz27 => ?_
        refine ⟨Upd.cell (hx26.trans hx27) (cell_add hrd25 rfl) (fun h => h), ?_⟩
        have hxw : Ext w w27 := (hx1.trans hx25).trans (hx26.trans hx27)
        obtain ⟨i, hi, hsize, hby, hz⟩ := info_of (P := P) (e := 46) (size := 5) (bytes := 40) (z := .agg #[.int .i64 0, .int .i64 0, .int .i64 0, .int .u64 0, .float .f64 0]) (by kernel_rfl) (by kernel_rfl)
        have hnews : Cells w27 (some ⟨k3, 0, none⟩) t.cells := .inr ⟨_, rfl, rfl, fun j hj => by
          rw [add_pl]; refine cell_blk hblk3 ?_
          rw [Nat.zero_add, ← Array.getElem?_toList]; exact List.getElem?_eq_getElem hj⟩
        refine append_row (size := 5) (bytes := 40) Go.Proofs.Tryz.underlying25 hi hz hsize hby rfl (by decide) (hsrow.ext hxw) (m := 1) rfl hnews (by intro u hu; simp only [St.cells, List.mem_cons, List.not_mem_nil, or_false] at hu; rcases hu with rfl | rfl | rfl | rfl | rfl <;> rfl) (by decide) (by unfold maxLen; omega) (by omega) fun sq' sc' w29 hrow' hu29 hfr29 => ?_
        have hrd29 := hu29.blk (Upd.blk hxw hrd (fun h => h)) hsb
        refine st_add hrd29 (by show 8 < 10; decide) fun w30 h30 hu30 hsz30 => ?_
        have hN27 : N ≤ w27.heap.size := Nat.le_trans hNw hxw.size
        have hsfr : ∀ x, blkOf sq' = some x → N ≤ x := fun x hx => by rcases hfr29 x hx with h | h; exact hsN x h; omega
        refine h1 { r with steps := r.steps ++ [t] } w30 (by rw [hspec, ht]) ?_ (((tolift hxw).trans (hu29.mono fun i _ hi => .inr (hsN i hi))).trans (hu30.mono fun i _ hi => .inl hi))
        refine ⟨oq, ol, oc, sq', sl + 1, sc', h30, ?_, ?_, hol, ?_, hbN, hoN, hsfr, ?_⟩
        · exact ((horow.ext hxw).upd hu29 (fun x hx hh => hos x hx hh)).upd hu30 (hnb hoN)
        · have e : stepsCells (r.steps ++ [t]) = stepsCells r.steps ++ t.cells := by simp [stepsCells]
          show Row w30 _ 5 sq' (sl + 1) sc' (stepsCells (r.steps ++ [t]))
          rw [e]
          exact hrow'.upd hu30 (hnb hsfr)
        · show sl + 1 = (r.steps ++ [_]).length
          rw [List.length_append, hsl]; rfl
        · intro x hx hh
          rcases hfr29 x hh with h | h
          · exact hos x hx h
          · have := horow.lt hx
            have := hxw.size; omega
    refine cnd_i (fun hop => ?_) (fun hop => ?_)
    · have hop' : word.data.toList = opWord := by rw [sEq_t] at hop; rw [hop]; rfl
      refine ld_add hrd1 (v := .slice sq sl sc) rfl ?_
      refine join _ (fun h0 => ⟨hop', ?_⟩) (fun h0 => ?_)
      · rw [iEq_t] at h0
        exact List.eq_nil_of_length_eq_zero (by omega)
      · rw [iEq_f] at h0
        rintro ⟨_, hn⟩; rw [hn] at hsl; exact h0 (by rw [hsl]; rfl)
    · refine join _ (fun h0 => by cases h0) (fun h0 => ?_)
      rw [sEq_f] at hop
      rintro ⟨hh, _⟩; apply hop; symm; rw [bs, mk_data]; exact hh.symm
end Go.Proofs.YtgfbkmclekafbaaGreatDoor
