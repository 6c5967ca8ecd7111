/- The document's own numerals and digits. -/
import Derived.Test.YtgfbkmclekafbaaGreatDoorQWalk
set_option linter.unusedVariables false
set_option linter.unusedSimpArgs false
set_option linter.unnecessarySimpa false
set_option maxRecDepth 100000
namespace Go.Proofs.YtgfbkmclekafbaaGreatDoor
open Go Go.Vc

theorem cat_bs (a b : List UInt8) : cat (bs a) (bs b) = bs (a ++ b) := by
  apply ByteArray.ext; apply Array.ext'
  unfold cat bs
  simp only [ByteArray.data_append, Array.toList_append]
theorem cutS_bs (l : List UInt8) (i j : Nat) : cutS (bs l) i j = bs ((l.take j).drop i) := by
  apply ByteArray.ext; apply Array.ext'
  rw [cutS_data]; rfl
theorem bs_size (l : List UInt8) : (bs l).size = l.length := by rw [size_len]; rfl
theorem catOk_bs {a b : List UInt8} (h : a.length + b.length ≤ 1000000000) : catOk (bs a) (bs b) := by
  unfold catOk; rw [bs_size, bs_size]; omega
theorem cut10 {k : Nat} (h : k < 10) : cutS (bs [48, 49, 50, 51, 52, 53, 54, 55, 56, 57]) k (k + 1) = bs [UInt8.ofNat (48 + k)] := by
  rw [cutS_bs]
  have : ∀ k : Fin 10, (([48, 49, 50, 51, 52, 53, 54, 55, 56, 57] : List UInt8).take (k.val + 1)).drop k.val = [UInt8.ofNat (48 + k.val)] := by decide
  rw [this ⟨k, h⟩]
theorem cut16 {k : Nat} (h : k < 16) : cutS (bs [48, 49, 50, 51, 52, 53, 54, 55, 56, 57, 97, 98, 99, 100, 101, 102]) k (k + 1) = bs [dig16 k] := by
  rw [cutS_bs]
  have : ∀ k : Fin 16, (([48, 49, 50, 51, 52, 53, 54, 55, 56, 57, 97, 98, 99, 100, 101, 102] : List UInt8).take (k.val + 1)).drop k.val = [dig16 k.val] := by decide
  rw [this ⟨k, h⟩]
theorem u64_add {a b : Nat} (h : a + b < 18446744073709551616) : iAdd .u64 (a : Int) (b : Int) = ((a + b : Nat) : Int) := by
  unfold iAdd; rw [wrap_u64 (by omega) (by omega)]; omega
theorem u64_one {a : Nat} (h : a + 1 < 18446744073709551616) : iAdd .u64 (a : Int) 1 = ((a + 1 : Nat) : Int) := u64_add (b := 1) h
theorem rem_nat (a b : Nat) : iRem (a : Int) (b : Int) = ((a % b : Nat) : Int) := (Int.ofNat_tmod a b).symm
theorem quo_nat {a b : Nat} (h : a < 18446744073709551616) : iQuo .u64 (a : Int) (b : Int) = ((a / b : Nat) : Int) := by
  unfold iQuo
  have e : Int.tdiv (a : Int) (b : Int) = ((a / b : Nat) : Int) := (Int.ofNat_tdiv a b).symm
  have := Nat.div_le_self a b
  rw [e]
  obtain ⟨q, hq⟩ : ∃ q, a / b = q := ⟨_, rfl⟩
  rw [hq] at this ⊢
  rw [wrap_u64 (by omega) (by omega)]

theorem dec04_el {n : Nat} {w : World} {K : Value → World → Prop} {X : List PanicEntry → World → Prop} (hn : n < 18446744073709551616) (h : K (.string (bs (Lib.decDigits n))) w) : call P n_repriseref04_decimal [.int .u64 n] w K X := by
  refine repriseref04_decimal.call ?_
  unfold repriseref04_decimal.F
  intro L1 hL1
  have hdl := dec_len hn
  suffices hh : ∀ (m : Nat) (s : List UInt8), m < 18446744073709551616 → Lib.decDigits n = Lib.decDigits m ++ s → L1 [.int .u64 m, .string (bs s)] w from hh n [] hn (by simp)
  intro m
  induction m using Nat.strongRecOn with
  | _ m ih =>
    intro s hm he
    have hlen : s.length ≤ 30 := by have := congrArg List.length he; rw [List.length_append] at this; omega
    refine hL1 _ _ _ fun _ => ?_
    by_cases h10 : 10 ≤ m
    · refine if_t (by rw [iGe_t]; omega) ?_
      have e1 : iRem (m : Int) 10 = ((m % 10 : Nat) : Int) := rem_nat m 10
      have e2 : iAdd .u64 ((m % 10 : Nat) : Int) 1 = ((m % 10 + 1 : Nat) : Int) := u64_one (by omega)
      have e3 : iQuo .u64 (m : Int) 10 = ((m / 10 : Nat) : Int) := quo_nat hm
      rw [e1, e2, e3, Int.toNat_natCast, Int.toNat_natCast, cut10 (by omega), cat_bs]
      refine ⟨by unfold nz; decide, by unfold nz; decide, ⟨by omega, by rw [bs_size]; show _ ≤ (10 : Int); omega⟩, ⟨by omega, by omega⟩, catOk_bs (by simp; omega), by unfold nz; decide, ?_⟩
      refine ih (m / 10) (by omega) _ (by omega) ?_
      rw [he, Lib.decDigits.eq_1 m, dif_neg (by omega)]
      simp
    · refine if_f (by rw [iGe_f]; omega) ?_
      have e2 : iAdd .u64 (m : Int) 1 = ((m + 1 : Nat) : Int) := u64_one (by omega)
      rw [e2, Int.toNat_natCast, Int.toNat_natCast, cut10 (by omega), cat_bs]
      refine ⟨⟨by omega, by rw [bs_size]; show _ ≤ (10 : Int); omega⟩, ⟨by omega, by omega⟩, catOk_bs (by simp; omega), ?_⟩
      rw [he, Lib.decDigits.eq_1 m, dif_pos (by omega)] at h
      exact h

theorem hexFill_top : ∀ (i b : Nat), hexFill (i + 1) b = dig16 (b / 16 ^ i % 16) :: hexFill i b
  | 0, b => by simp [hexFill]
  | i + 1, b => by
    rw [hexFill, hexFill_top i (b / 16), List.cons_append, Nat.div_div_eq_div_mul, hexFill]
    congr 3
    rw [Nat.pow_succ]; congr 1; rw [Nat.mul_comm]
theorem shr_nat {n i : Nat} (hi : i < 16) : iShr .u64 (n : Int) (IntKind.wrap .u64 (iMul .i64 4 (i : Int))) = ((n / 16 ^ i : Nat) : Int) := by
  have e1 : iMul .i64 4 (i : Int) = ((4 * i : Nat) : Int) := by rw [iMul_i64 (by omega) (by omega)]; omega
  rw [e1, wrap_u64 (by omega) (by omega)]
  unfold iShr
  rw [Int.toNat_natCast]
  have e2 : min (4 * i) (IntKind.bits .u64) = 4 * i := by show min (4 * i) 64 = _; omega
  rw [e2]
  have e3 : (2 : Int) ^ (4 * i) = ((16 ^ i : Nat) : Int) := by
    rw [Int.pow_mul]; norm_cast
  rw [e3, Int.fdiv_eq_ediv_of_nonneg _ (Int.natCast_nonneg _)]
  rfl
theorem hex21_el {n : Nat} {w : World} {K : Value → World → Prop} {X : List PanicEntry → World → Prop} (hn : n < 18446744073709551616) (h : K (.string (bs (hexText n))) w) : call P n_repriseref21_hex [.float .f64 n] w K X := by
  refine repriseref21_hex.call ?_
  unfold repriseref21_hex.F
  refine repriseraw_Bits.call ?_
  unfold repriseraw_Bits.F
  refine bits_el (X := X) ?_
  show ∀ L1 : List Value → World → Prop, _
  intro L1 hL1
  suffices hh : ∀ (m i : Nat), i + m = 16 → L1 [.string (bs (hexFill i n)), .int .i64 (i : Int)] w from hh 16 0 rfl
  intro m
  induction m with
  | succ m ih =>
    intro i hi
    refine hL1 _ _ _ fun _ => if_t (by rw [iLt_t]; omega) ?_
    have hk : n / 16 ^ i % 16 < 16 := Nat.mod_lt _ (by decide)
    have hn2 : n / 16 ^ i ≤ n := Nat.div_le_self _ _
    have e0 := shr_nat (n := n) (i := i) (by omega)
    have e1 : iRem ((n / 16 ^ i : Nat) : Int) 16 = ((n / 16 ^ i % 16 : Nat) : Int) := rem_nat _ 16
    have e2 : iAdd .u64 ((n / 16 ^ i % 16 : Nat) : Int) 1 = ((n / 16 ^ i % 16 + 1 : Nat) : Int) := u64_one (by omega)
    have e3 : iAdd .i64 (i : Int) 1 = ((i + 1 : Nat) : Int) := by rw [iAdd_i64 (by omega) (by omega)]; omega
    rw [e0, e1, e2, e3, Int.toNat_natCast, Int.toNat_natCast, cut16 hk, cat_bs]
    refine ⟨?_, by unfold nz; decide, ⟨by omega, by rw [bs_size]; show _ ≤ (16 : Int); omega⟩, ⟨by omega, by omega⟩, catOk_bs (by rw [hexFill_len]; simp; omega), ?_⟩
    · unfold nng
      rw [IntKind.wrap_u64]; omega
    · have := ih (i + 1) (by omega)
      rw [hexFill_top] at this
      exact this
  | zero =>
    intro i hi
    obtain rfl : i = 16 := by omega
    refine hL1 _ _ _ fun _ => if_f (by rw [iLt_f]; omega) ?_
    exact h

theorem known_el {a : Int} {w : World} {K : Value → World → Prop} {X : List PanicEntry → World → Prop} (h1 : 1 ≤ a) (h2 : a ≤ 2) (h : K (.bool true) w) : call P n_repriseref04_Known [.int .i64 a] w K X := by
  refine repriseref04_Known.call ?_
  unfold repriseref04_Known.F
  intro K1 hK1
  refine if_t (by rw [iGe_t]; omega) ?_
  rw [show iLe a 4 = true from by rw [iLe_t]; omega]
  exact hK1 _ _ fun _ => h
theorem fit_el {a : Int} {n : Nat} {w : World} {K : Value → World → Prop} {X : List PanicEntry → World → Prop} (h1 : 1 ≤ a) (h2 : a ≤ 2) (h : ∀ w', Ext w w' → K (.agg #[.bool true, .int .u64 n]) w') : call P n_repriseref04_Fit [.int .i64 a, .agg #[.bool true, .int .u64 n]] w K X := by
  refine repriseref04_Fit.call ?_
  unfold repriseref04_Fit.F
  refine al_el fun k1 w1 hk1 hb1 hx1 hs1 => ?_
  refine al_el fun k2 w2 hk2 hb2 hx2 hs2 => ?_
  refine known_el h1 h2 ?_
  have hb12 := hx2.blk hb1 (fun h => h)
  simp only [asB_at]
  intro K1 hK1
  refine if_f rfl ?_
  refine ld_blk hb12 (v := .bool true) rfl ?_
  simp only [asB_at]
  refine hK1 _ _ fun _ => ?_
  refine if_f rfl ?_
  refine if_t (by rw [iLe_t]; omega) ?_
  refine ld_blk hb12 (v := .bool true) rfl ?_
  refine ld_blk hb12 (v := .int .u64 n) rfl ?_
  refine st_el hb2 (by simp) fun w6 h6 hu6 hs6 => ?_
  have h6' : w6.heap[k2]? = some (.cells #[.bool true, .int .u64 n] 88 (0, 0)) := h6
  refine ld_blk h6' (v := .bool true) rfl ?_
  refine ld_blk h6' (v := .int .u64 n) rfl ?_
  exact h w6 (Ext.upd (hx1.trans hx2) hu6 (fun i hi => by have := hx1.size; omega))
theorem text_el {a : Int} {n : Nat} {w : World} {K : Value → World → Prop} {X : List PanicEntry → World → Prop} (h1 : 1 ≤ a) (h2 : a ≤ 2) (hn : n < 18446744073709551616) (h : ∀ w', Ext w w' → K (.string (bs (if a = 2 ∧ 9223372036854775808 ≤ n then 45 :: Lib.decDigits (18446744073709551616 - n) else Lib.decDigits n))) w') :
    call P n_repriseref04_Text [.int .i64 a, .agg #[.bool true, .int .u64 n]] w K X := by
  refine repriseref04_Text.call ?_
  unfold repriseref04_Text.F
  refine al_el fun k1 w1 hk1 hb1 hx1 hs1 => ?_
  refine known_el h1 h2 ?_
  simp only [asB_at]
  refine if_f rfl ?_
  refine ld_blk hb1 (v := .bool true) rfl ?_
  refine ld_blk hb1 (v := .int .u64 n) rfl ?_
  refine fit_el h1 h2 (fun w3 hx3 => ?_)
  have hb3 := hx3.blk hb1 (fun h => h)
  refine st_el hb3 (by simp) fun w4 h4 hu4 hs4 => ?_
  have h4' : w4.heap[k1]? = some (.cells #[.bool true, .int .u64 n] 88 (0, 0)) := h4
  have hx4 : Ext w w4 := Ext.upd (hx1.trans hx3) hu4 (fun i hi => by omega)
  refine ld_blk h4' (v := .bool true) rfl ?_
  simp only [asB_at]
  refine if_f rfl ?_
  by_cases ha : a = 1
  · refine if_t (by rw [iEq_t]; exact ha) ?_
    refine ld_blk h4' (v := .int .u64 n) rfl ?_
    refine dec04_el hn ?_
    have := h w4 hx4
    rw [if_neg (by omega)] at this
    exact this
  · have ha2 : a = 2 := by omega
    refine if_f (by rw [iEq_f]; exact ha) ?_
    refine if_t (by rw [iEq_t]; exact ha2) ?_
    refine ld_blk h4' (v := .int .u64 n) rfl ?_
    have := h w4 hx4
    refine cnd_i (fun hg => ?_) (fun hg => ?_)
    · rw [iGe_t] at hg
      refine ld_blk h4' (v := .int .u64 n) rfl ?_
      show call P 59 [.int .u64 (iSub .u64 0 (n : Int))] w4 _ X
      have e : iSub .u64 0 (n : Int) = ((18446744073709551616 - n : Nat) : Int) := by
        unfold iSub; rw [IntKind.wrap_u64]; omega
      rw [e]
      have hn' : 18446744073709551616 - n < 18446744073709551616 := by omega
      refine dec04_el hn' ?_
      have hl := dec_len hn'
      rw [if_pos ⟨ha2, by omega⟩] at this
      refine ⟨catOk_bs (by simp; omega), ?_⟩
      rw [cat_bs]
      exact this
    · rw [iGe_f] at hg
      refine ld_blk h4' (v := .int .u64 n) rfl ?_
      refine dec04_el hn ?_
      rw [if_neg (by omega)] at this
      exact this
theorem dec21_el {n : Int} {w : World} {K : Value → World → Prop} {X : List PanicEntry → World → Prop} (h0 : -9223372036854775808 ≤ n) (h1 : n ≤ 9223372036854775807) (h : ∀ w', Ext w w' → K (.string (bs (Lib.itoa n))) w') : call P n_repriseref21_decimal [.int .i64 n] w K X := by
  refine repriseref21_decimal.call ?_
  unfold repriseref21_decimal.F
  obtain ⟨m, hm, hml⟩ : ∃ m : Nat, IntKind.wrap .u64 n = (m : Int) ∧ m < 18446744073709551616 := ⟨(IntKind.wrap .u64 n).toNat, by rw [IntKind.wrap_u64]; omega, by rw [IntKind.wrap_u64]; omega⟩
  rw [hm]
  refine text_el (by decide) (by decide) hml (fun w1 hx1 => ?_)
  have := h w1 hx1
  rw [IntKind.wrap_u64] at hm
  by_cases hneg : n < 0
  · rw [if_pos ⟨rfl, by omega⟩]
    obtain ⟨k, hk⟩ : ∃ k : Nat, n = -(k : Int) := ⟨n.natAbs, by omega⟩
    rw [hk, Lib.itoa_neg k (by omega)] at this
    have e : 18446744073709551616 - m = k := by omega
    rw [e]; exact this
  · rw [if_neg (by omega)]
    have e : n = (m : Int) := by omega
    rw [e, Lib.itoa_nonneg] at this
    exact this
end Go.Proofs.YtgfbkmclekafbaaGreatDoor

/- The document's own line of a step. -/
set_option maxRecDepth 100000
namespace Go.Proofs.YtgfbkmclekafbaaGreatDoor
open Go Go.Vc

theorem bs_inj {a b : List UInt8} : bs a = bs b ↔ a = b := ⟨fun h => by have := congrArg (fun x : ByteArray => x.data.toList) h; exact this, fun h => by rw [h]⟩
theorem sEq_bs (a b : List UInt8) : sEq (bs a) (bs b) = decide (a = b) := by
  rw [Bool.eq_iff_iff, sEq_t, decide_eq_true_eq, bs_inj]

theorem word21_el {k : Int} {w : World} {K : Value → World → Prop} {X : List PanicEntry → World → Prop} (h1 : (k < 1 ∨ 11 < k) → ∀ w', Ext w w' → K (.string (bs [])) w') (h2 : 1 ≤ k → k ≤ 11 → ∀ w', Ext w w' → K (.string (bs (wordAt k.toNat))) w') : call P n_repriseref21_word [.int .i64 k] w K X := by
  refine repriseref21_word.call ?_
  unfold repriseref21_word.F
  refine al_el fun k1 w1 hk1 hb1 hx1 hs1 => ?_
  refine st_el hb1 (by simp) fun w2 h2' hu2 hs2 => ?_
  have hx2 : Ext w w2 := Ext.upd hx1 hu2 (fun i hi => by omega)
  intro K1 hK1
  have bad : (k < 1 ∨ 11 < k) → K1 [.bool true] w2 := fun hb => hK1 _ _ fun _ => if_t rfl (h1 hb w2 hx2)
  refine cnd_i (fun hg => bad (by rw [iLt_t] at hg; exact .inl hg)) (fun hg => ?_)
  rw [iLt_f] at hg
  by_cases hg2 : 11 < k
  · rw [show iGt k 11 = true from by rw [iGt_t]; exact hg2]; exact bad (.inr hg2)
  · rw [show iGt k 11 = false from by rw [iGt_f]; omega]
    refine hK1 _ _ fun _ => if_f rfl ?_
    obtain ⟨m, hm, hm11⟩ : ∃ m : Nat, k = ((m + 1 : Nat) : Int) ∧ m < 11 := ⟨(k - 1).toNat, by omega, by omega⟩
    have e : iSub .i64 k 1 = (m : Int) := by rw [iSub_i64 (by omega) (by omega)]; omega
    rw [e]
    refine ⟨by unfold inB; omega, ?_⟩
    intro d1 hd1
    rw [hd1, Int.toNat_natCast]
    have hv : (#[.string (bs [112, 114, 111, 100, 117, 99, 101]), .string (bs [115, 119, 105, 116, 99, 104]), .string (bs [116, 105, 99, 107]), .string (bs [100, 101, 108, 105, 118, 101, 114]), .string (bs [100, 114, 111, 112]), .string (bs [99, 111, 112, 121]), .string (bs [99, 117, 116]), .string (bs [99, 114, 97, 115, 104]), .string (bs [114, 101, 115, 116, 97, 114, 116]), .string (bs [113, 117, 101, 114, 121]), .string (bs [114, 111, 117, 110, 100])] : Array Value)[m]? = some (.string (bs (wordAt (m + 1)))) := by
      match m, hm11 with
      | 0, _ => rfl
      | 1, _ => rfl
      | 2, _ => rfl
      | 3, _ => rfl
      | 4, _ => rfl
      | 5, _ => rfl
      | 6, _ => rfl
      | 7, _ => rfl
      | 8, _ => rfl
      | 9, _ => rfl
      | 10, _ => rfl
      | m + 11, h => omega
    refine ld_add h2' hv ?_
    have := h2 (by omega) (by omega) w2 hx2
    rw [hm, Int.toNat_natCast] at this
    exact this

theorem asks21_el {k : Nat} {w : World} {K : Value → World → Prop} {X : List PanicEntry → World → Prop} (h1 : 1 ≤ k) (h2 : k ≤ 11) (h : K (.tuple #[.string (bs (askAt k)), .int .i64 k]) w) : call P n_repriseref21_asks [.string (bs (wordAt k))] w K X := by
  refine repriseref21_asks.call ?_
  unfold repriseref21_asks.F
  simp only [sEq_bs]
  match k, h1, h2, h with
  | 1, _, _, h => exact h
  | 2, _, _, h => exact h
  | 3, _, _, h => exact h
  | 4, _, _, h => exact h
  | 5, _, _, h => exact h
  | 6, _, _, h => exact h
  | 7, _, _, h => exact h
  | 8, _, _, h => exact h
  | 9, _, _, h => exact h
  | 10, _, _, h => exact h
  | 11, _, _, h => exact h
  | k + 12, _, h, _ => omega

theorem word_ne {k : Nat} (h1 : 1 ≤ k) (h2 : k ≤ 11) : wordAt k ≠ [] := by
  have : ∀ k : Fin 12, 1 ≤ k.val → wordAt k.val ≠ [] := by decide
  exact this ⟨k, by omega⟩ h1

theorem line21_el {t : St} {w : World} {K : Value → World → Prop} {X : List PanicEntry → World → Prop} (ht : t.wf)
    (h1 : (t.kind < 1 ∨ 11 < t.kind) → ∀ w', Ext w w' → K (.tuple #[.string (bs []), .int .i64 200]) w')
    (h2 : 1 ≤ t.kind → t.kind ≤ 11 → (lineLeft t).bad → ∀ w', Ext w w' → K (.tuple #[.string (bs []), .int .i64 1]) w')
    (h3 : 1 ≤ t.kind → t.kind ≤ 11 → ¬ (lineLeft t).bad → ∀ w', Ext w w' → K (.tuple #[.string (bs (wordAt t.kind.toNat ++ argsText t (askAt t.kind.toNat))), .int .i64 0]) w') :
    call P n_repriseref21_Line [.agg #[.int .i64 t.kind, .int .i64 t.node, .int .i64 t.n, .int .u64 t.key, .float .f64 t.val]] w K X := by
  refine repriseref21_Line.call ?_
  unfold repriseref21_Line.F
  refine al_el fun k1 w1 hk1 hb1 hx1 hs1 => ?_
  refine ld_blk hb1 (v := .int .i64 t.kind) rfl ?_
  refine word21_el (fun hb w2 hx2 => ?_) (fun g1 g2 w2 hx2 => ?_)
  · show cnd (sEq (bs []) (bs [])) _ _
    exact if_t (by rw [sEq_t]) (h1 hb w2 (hx1.trans hx2))
  · obtain ⟨k, hk⟩ : ∃ k : Nat, t.kind.toNat = k := ⟨_, rfl⟩
    rw [hk] at h3 ⊢
    have hk1' : 1 ≤ k := by omega
    have hk2' : k ≤ 11 := by omega
    show cnd (sEq (bs (wordAt k)) (bs [])) _ _
    refine if_f (by rw [sEq_f, bs_inj]; exact word_ne hk1' hk2') ?_
    refine asks21_el hk1' hk2' ?_
    show ∀ L1 : List Value → World → Prop, _
    intro L1 hL1
    have hb2 : w2.heap[k1]? = some (.cells t.cells.toArray 46 (0, 0)) := hx2.blk hb1 (fun h => h)
    have hw2 : Ext w w2 := hx1.trans hx2
    obtain ⟨total, htot⟩ : ∃ total, wordAt k ++ argsText t (askAt k) = total := ⟨_, rfl⟩
    have htl : total.length ≤ 100 := by
      have := lineText_len ht
      rw [lineText, hk, htot, List.length_append] at this
      omega
    rw [htot] at h3
    have hleft : lineLeft t = argsLeft t (askAt k) := by rw [lineLeft, hk]
    rw [hleft] at h2 h3
    suffices hh : ∀ (rest : List UInt8) (i : Nat) (t' : St) (s : List UInt8) (w4 : World), t'.wf → i + rest.length = (askAt k).length → (askAt k).drop i = rest → w4.heap[k1]? = some (.cells t'.cells.toArray 46 (0, 0)) → Ext w w4 →
        total = s ++ argsText t' rest → argsLeft t (askAt k) = argsLeft t' rest → L1 [.string (bs s), .int .i64 (i : Int)] w4 from
      hh (askAt k) 0 t (wordAt k) w2 ht (by simp) rfl hb2 hw2 htot.symm rfl
    intro rest
    induction rest with
    | nil =>
      intro i t' s w4 ht' hi hd hb4 hx4 hs hl
      have hs' : total = s := by rw [hs]; simp [argsText]
      have hl' : argsLeft t (askAt k) = t' := hl
      rw [hl'] at h2 h3
      refine hL1 _ _ _ fun _ => if_f (by rw [iLt_f, lenN_el, bs_size]; simp at hi; omega) ?_
      refine ld_blk hb4 (v := .int .i64 t'.node) rfl ?_
      show ∀ K1 : List Value → World → Prop, _
      intro K1 hK1
      have step2 : ∀ b1 : Bool, (b1 = true → t'.bad) → (b1 = false → t'.node = 0 ∧ t'.n = 0) → K1 [.bool b1] w4 := by
        intro b1 p1 p2
        refine hK1 _ _ fun _ => ?_
        intro K2 hK2
        have step3 : ∀ b2 : Bool, (b2 = true → t'.bad) → (b2 = false → t'.node = 0 ∧ t'.n = 0 ∧ t'.key = 0) → K2 [.bool b2] w4 := by
          intro b2 p3 p4
          refine hK2 _ _ fun _ => ?_
          intro K3 hK3
          have step4 : ∀ b3 : Bool, (b3 = true ↔ t'.bad) → K3 [.bool b3] w4 := by
            intro b3 p5
            refine hK3 _ _ fun _ => ?_
            refine cnd_i (fun hb => h2 g1 g2 (p5.1 hb) w4 hx4) (fun hb => ?_)
            have := h3 g1 g2 (fun hh => by rw [p5.2 hh] at hb; cases hb) w4 hx4
            rw [hs'] at this
            exact this
          refine cnd_i (fun hb => step4 true ⟨fun _ => p3 hb, fun _ => rfl⟩) (fun hb => ?_)
          refine ld_blk hb4 (v := .float .f64 t'.val) rfl ?_
          refine repriseraw_Bits.call ?_
          unfold repriseraw_Bits.F
          refine bits_el (X := X) ?_
          obtain ⟨q1, q2, q3⟩ := p4 hb
          refine step4 _ ?_
          rw [iNe_t]
          unfold St.bad
          constructor
          · intro hv; right; right; right; omega
          · rintro (hv | hv | hv | hv)
            · exact absurd q1 hv
            · exact absurd q2 hv
            · exact absurd q3 hv
            · omega
        refine cnd_i (fun hb => step3 true (fun _ => p1 hb) (by simp)) (fun hb => ?_)
        refine ld_blk hb4 (v := .int .u64 t'.key) rfl ?_
        obtain ⟨q1, q2⟩ := p2 hb
        refine step3 _ (fun hv => ?_) (fun hv => ?_)
        · rw [iNe_t] at hv; unfold St.bad; right; right; left; omega
        · rw [iNe_f] at hv; exact ⟨q1, q2, by omega⟩
      refine cnd_i (fun hb => step2 true (fun _ => by rw [iNe_t] at hb; exact .inl hb) (by simp)) (fun hb => ?_)
      rw [iNe_f] at hb
      refine ld_blk hb4 (v := .int .i64 t'.n) rfl ?_
      refine step2 _ (fun hv => ?_) (fun hv => ?_)
      · rw [iNe_t] at hv; exact .inr (.inl hv)
      · rw [iNe_f] at hv; exact ⟨hb, hv⟩
    | cons c rest ih =>
      intro i t' s w4 ht' hi hd hb4 hx4 hs hl
      have hil : i < (askAt k).length := by simp only [List.length_cons] at hi; omega
      have hci : (askAt k)[i]? = some c := by
        have h0 : ((askAt k).drop i)[0]? = some c := by rw [hd]; rfl
        rw [List.getElem?_drop, Nat.add_zero] at h0; exact h0
      have hd' : (askAt k).drop (i + 1) = rest := by
        have : ((askAt k).drop i).drop 1 = rest := by rw [hd]; rfl
        rw [List.drop_drop] at this; exact this
      have hbt : bt (bs (askAt k)) (i : Int) = (c.toNat : Int) := bt_at (s := bs (askAt k)) (i := i) hci
      have hask : (askAt k).length ≤ 3 := ask_len k
      have hnext : iAdd .i64 (i : Int) 1 = ((i + 1 : Nat) : Int) := by rw [iAdd_i64 (by omega) (by omega)]; omega
      have hsl : s.length ≤ 100 := by have := congrArg List.length hs; rw [List.length_append] at this; omega
      have hs2 : total = (s ++ [32] ++ argText t' c) ++ argsText (clearArg t' c) rest := by rw [hs, argsText]; simp
      have hl2 : argsLeft t (askAt k) = argsLeft (clearArg t' c) rest := hl
      have hsl2 : (s ++ [32]).length + (argText t' c).length ≤ 1000000000 := by have := arg_len ht' c; simp only [List.length_append, List.length_singleton]; omega
      have go : ∀ w5, w5.heap[k1]? = some (.cells (clearArg t' c).cells.toArray 46 (0, 0)) → Ext w w5 → L1 [.string (bs (s ++ [32] ++ argText t' c)), .int .i64 ((i + 1 : Nat) : Int)] w5 := fun w5 hb5 hx5 =>
        ih (i + 1) (clearArg t' c) _ w5 (clearArg_wf ht' c) (by simp only [List.length_cons] at hi; omega) hd' hb5 hx5 hs2 hl2
      have hkw : w.heap.size ≤ k1 := by omega
      refine hL1 _ _ _ fun _ => if_t (by rw [iLt_t, lenN_el, bs_size]; omega) ⟨by rw [bs_size]; unfold inB; omega, ?_⟩
      rw [hbt, hnext]
      have ne : ∀ {c : UInt8} {m : Nat}, c.toNat = m → iEq ((c.toNat : Nat) : Int) (m : Int) = true := fun hq => by rw [iEq_t, hq]
      rcases ask_letters k c (by rw [List.mem_iff_getElem?]; exact ⟨i, hci⟩) with rfl | rfl | rfl | rfl
      · refine if_t rfl ⟨catOk_bs (by simp; omega), ?_⟩
        refine ld_blk hb4 (v := .int .i64 t'.node) rfl ?_
        refine dec21_el ht'.n0 ht'.n1 (fun w6 hx6 => ?_)
        rw [cat_bs]
        refine ⟨catOk_bs hsl2, ?_⟩
        refine st1_el (hx6.blk hb4 (fun h => h)) (by simp [St.cells]) fun w7 h7 hu7 hs7 => ?_
        rw [cat_bs]
        exact go w7 h7 (Ext.upd (hx4.trans hx6) hu7 (fun j hj => by omega))
      · refine if_f rfl ?_
        refine if_t rfl ⟨catOk_bs (by simp; omega), ?_⟩
        refine ld_blk hb4 (v := .int .i64 t'.n) rfl ?_
        refine dec21_el ht'.m0 ht'.m1 (fun w6 hx6 => ?_)
        rw [cat_bs]
        refine ⟨catOk_bs hsl2, ?_⟩
        refine st1_el (hx6.blk hb4 (fun h => h)) (by simp [St.cells]) fun w7 h7 hu7 hs7 => ?_
        rw [cat_bs]
        exact go w7 h7 (Ext.upd (hx4.trans hx6) hu7 (fun j hj => by omega))
      · refine if_f rfl ?_
        refine if_f rfl ?_
        refine if_t rfl ⟨catOk_bs (by simp; omega), ?_⟩
        refine ld_blk hb4 (v := .int .u64 t'.key) rfl ?_
        refine text_el (a := 1) (by decide) (by decide) ht'.k (fun w6 hx6 => ?_)
        rw [if_neg (by omega), cat_bs]
        refine ⟨catOk_bs hsl2, ?_⟩
        refine st1_el (hx6.blk hb4 (fun h => h)) (by simp [St.cells]) fun w7 h7 hu7 hs7 => ?_
        rw [cat_bs]
        exact go w7 h7 (Ext.upd (hx4.trans hx6) hu7 (fun j hj => by omega))
      · refine if_f rfl ?_
        refine if_f rfl ?_
        refine if_f rfl ?_
        refine if_t rfl ⟨catOk_bs (by simp; omega), ?_⟩
        refine ld_blk hb4 (v := .float .f64 t'.val) rfl ?_
        refine hex21_el ht'.v ?_
        rw [cat_bs]
        refine ⟨catOk_bs hsl2, ?_⟩
        refine st1_el hb4 (by simp [St.cells]) fun w7 h7 hu7 hs7 => ?_
        rw [cat_bs]
        exact go w7 h7 (Ext.upd hx4 hu7 (fun j hj => by omega))
end Go.Proofs.YtgfbkmclekafbaaGreatDoor

/- The document's own Print; ScriptPrints: true. -/
set_option maxRecDepth 100000
namespace Go.Proofs.YtgfbkmclekafbaaGreatDoor
open Go Go.Vc

theorem upd_next {S S' : Nat → Prop} {w w' w'' : World} (h : Upd S w w') (h' : Upd S' w' w'') (hs : ∀ i, i < w.heap.size → S' i → S i) : Upd S w w'' :=
  ⟨h'.os.trans h.os, h'.tape.trans h.tape, h'.output.trans h.output, Nat.le_trans h.size h'.size, fun i hi hn => (h'.block i (Nat.lt_of_lt_of_le hi h.size) (fun hh => hn (hs i hi hh))).trans (h.block i hi hn)⟩
/-- a row of bytes that lies in S or was made since w0 -/
structure BS (S : Nat → Prop) (w0 w : World) (q : Option Addr) (n c : Nat) (l : List UInt8) : Prop where
  row : Row w 5 1 q n c (l.map byteVal)
  len : n = l.length
  new : ∀ x, blkOf q = some x → S x ∨ w0.heap.size ≤ x
  upd : Upd S w0 w
theorem BS.on {S : Nat → Prop} {w0 w w' : World} {q : Option Addr} {n c : Nat} {l : List UInt8} (h : BS S w0 w q n c l) (hx : Ext w w') : BS S w0 w' q n c l := ⟨h.row.ext hx, h.len, h.new, upd_next h.upd hx (fun _ _ h => h.elim)⟩
theorem appB_s {S : Nat → Prop} {w0 w : World} {q : Option Addr} {n c : Nat} {l : List UInt8} {b : UInt8} {v : Value} {K : Value → World → Prop} {X : List PanicEntry → World → Prop} (h : BS S w0 w q n c l) (hv : v = byteVal b) (hl : l.length ≤ 1000000000)
    (hK : ∀ q' n' c' w', BS S w0 w' q' n' c' (l ++ [b]) → K (.slice q' n' c') w') : al w (.cells #[v] 5) fun k w1 => runV P (Builtin.append_ #[39, 39] 39 #[.slice q n c, .slice (some ⟨k, 0, none⟩) 1 1]) w1 K X := by
  refine al_el fun k w1 hk hb hx hs => ?_
  obtain ⟨inf, hi', hsize, hby, hz⟩ := info_of (P := P) (e := 5) (size := 1) (bytes := 1) (z := .int .u8 0) (by kernel_rfl) (by kernel_rfl)
  have hnews : Cells w1 (some ⟨k, 0, none⟩) [byteVal b] := .inr ⟨_, rfl, rfl, fun j hj => by
    rw [add_pl]; refine cell_blk hb ?_
    rw [hv, Nat.zero_add, ← Array.getElem?_toList]; exact List.getElem?_eq_getElem hj⟩
  have hn := h.len
  have h1 := h.on hx
  have hsz := h1.upd.size
  refine append_row (size := 1) (bytes := 1) Go.Proofs.Tryz.underlying39 hi' hz hsize hby rfl (by decide) h1.row (m := 1) rfl hnews (by intro u hu; simp only [List.mem_singleton] at hu; rw [hu]; rfl) (by decide) (by unfold maxLen; omega) (by omega) fun q3 c3 w10 hrow3 hu10 hfr10 => ?_
  refine hK q3 (n + 1) c3 w10 ⟨?_, by rw [List.length_append, hn]; rfl, fun x hx' => ?_, upd_next h1.upd hu10 (fun j hj hh => ?_)⟩
  · rw [List.map_append]; exact hrow3
  · rcases hfr10 x hx' with hq | hq
    · exact h.new x hq
    · right; omega
  · rcases h.new j hh with hh | hh
    · exact hh
    · omega
theorem appS_s {S : Nat → Prop} {w0 w : World} {q : Option Addr} {n c : Nat} {l : List UInt8} {s : ByteArray} {K : Value → World → Prop} {X : List PanicEntry → World → Prop} (h : BS S w0 w q n c l) (hl : l.length + s.size ≤ 1000000000)
    (hK : ∀ q' n' c' w', BS S w0 w' q' n' c' (l ++ s.data.toList) → K (.slice q' n' c') w') : runV P (Builtin.append_ #[39, 9] 39 #[.slice q n c, .string s]) w K X := by
  obtain ⟨inf, hi', hsize, hby, hz⟩ := info_of (P := P) (e := 5) (size := 1) (bytes := 1) (z := .int .u8 0) (by kernel_rfl) (by kernel_rfl)
  have hn := h.len
  have hsz := size_len s
  have hsz0 := h.upd.size
  refine append_str Go.Proofs.Tryz.underlying39 Go.Proofs.Tryz.underlying9 hi' hz hsize hby h.row (by omega) fun q2 c2 w7 hrow2 hu7 hfr7 => ?_
  refine hK q2 (n + s.size) c2 w7 ⟨?_, by rw [List.length_append, hn, hsz], fun x hx' => ?_, upd_next h.upd hu7 (fun j hj hh => ?_)⟩
  · have e : (l ++ s.data.toList).map byteVal = l.map byteVal ++ Lib.strCells s := by rw [Lib.strCells, List.map_append]; rfl
    rw [e]; exact hrow2
  · rcases hfr7 x hx' with hq | hq
    · exact h.new x hq
    · right; omega
  · rcases h.new j hh with hh | hh
    · exact hh
    · omega

set_option maxHeartbeats 2000000 in
theorem print21_el {p : PlanR} {oq : Option Addr} {ol oc : Nat} {steps : List St} {sq : Option Addr} {sl sc : Nat} {w : World} {K : Value → World → Prop} {X : List PanicEntry → World → Prop}
    (hp : p.wf) (ho : Cells w oq (opsCells p.ops)) (hol : ol = p.ops.length) (hs : Cells w sq (stepsCells steps)) (hsl : sl = steps.length) (hst : ∀ t ∈ steps, t.wf) (hob : p.ops.length ≤ 9223372036854775807)
    (h : ∀ w', Ext w w' → K (printV (printSpec p steps)) w') :
    call P n_repriseref21_Print [.agg (p.cells oq ol oc).toArray, .slice sq sl sc] w K X := by
  refine repriseref21_Print.call ?_
  unfold repriseref21_Print.F
  refine al_el fun k1 w1 hk1 hblk1 hx1 hsz1 => ?_
  have hpl1 : w1.heap[k1]? = some (.cells (p.cells oq ol oc).toArray 24 (0, 0)) := hblk1
  refine cnd_i (fun hg => ?_) (fun hg => ?_)
  · rw [iGt_t, lenN_el] at hg
    have := h w1 hx1
    unfold printSpec at this
    rw [if_pos (by omega)] at this
    exact this
  rw [iGt_f, lenN_el] at hg
  have hsteps : steps.length ≤ 4096 := by omega
  refine al_el fun k2 w3 hk2 hb3 hx3 hs3 => ?_
  have br3 : BR w1 w3 (some ⟨k2, 0, none⟩) 0 0 [] := ⟨Row.of_blk hb3 rfl (Nat.zero_le _), rfl, fun x hx => by simp [blkOf] at hx; omega, hx3⟩
  refine appS_el br3 (by rw [size_len]; decide) (fun q1 n1 c1 w5 br5 => ?_)
  simp only [asL_at]
  have hb5 : w5.heap[k1]? = some (.cells (p.cells oq ol oc).toArray 24 (0, 0)) := br5.ext.blk hpl1 (fun h => h)
  refine ld_blk hb5 (v := .int .i64 p.p0) rfl ?_
  refine ld_blk hb5 (v := .int .i64 p.p1) rfl ?_
  refine ld_blk hb5 (v := .int .i64 p.p2) rfl ?_
  refine ld_blk hb5 (v := .int .i64 p.p4) rfl ?_
  refine ld_blk hb5 (v := .int .i64 p.p5) rfl ?_
  refine ld_blk hb5 (v := .int .i64 p.p6) rfl ?_
  refine ld_blk hb5 (v := .int .i64 p.p7) rfl ?_
  refine al_el fun k3 w6 hk3 hb6 hx6 hs6 => ?_
  refine st_el hb6 (by simp) fun w7 h7 hu7 hs7 => ?_
  have h7' : w7.heap[k3]? = some (.cells (p.nums.map (Value.int .i64)).toArray 65 (0, 0)) := h7
  have hx7 : Ext w5 w7 := Ext.upd hx6 hu7 (fun i hi => by omega)
  have q1lt : ∀ x, blkOf q1 = some x → x < k3 ∧ k1 < x := fun x hx => by
    have h1 := br5.row.lt hx
    have h2 := br5.new x hx
    have h3 := blk_lt hpl1
    omega
  obtain ⟨S, hS⟩ : ∃ S : Nat → Prop, S = fun x => blkOf q1 = some x := ⟨_, rfl⟩
  have S1 : ¬ S k1 := by rw [hS]; intro hh; have := (q1lt _ hh).2; omega
  have S3 : ¬ S k3 := by rw [hS]; intro hh; have := (q1lt _ hh).1; omega
  have Sw : ∀ x, S x → w.heap.size ≤ x := by rw [hS]; intro x hh; have := (q1lt _ hh).2; omega
  have bs7 : BS S w7 w7 q1 n1 c1 planWord := ⟨(br5.row.ext hx7), br5.len, fun x hx => .inl (by rw [hS]; exact hx), Upd.refl _ _⟩
  have hb7 : w7.heap[k1]? = some (.cells (p.cells oq ol oc).toArray 24 (0, 0)) := hx7.blk hb5 (fun h => h)
  have hx17 : Ext w w7 := (hx1.trans br5.ext).trans hx7
  -- what was made before stays
  have ext : ∀ {w' q n c l}, BS S w7 w' q n c l → Ext w w' := fun hb => Ext.upd hx17 hb.upd (fun i hi => Sw i hi)
  have pl : ∀ {w' q n c l}, BS S w7 w' q n c l → w'.heap[k1]? = some (.cells (p.cells oq ol oc).toArray 24 (0, 0)) := fun hb => hb.upd.blk hb7 S1
  have ar : ∀ {w' q n c l}, BS S w7 w' q n c l → w'.heap[k3]? = some (.cells (p.nums.map (Value.int .i64)).toArray 65 (0, 0)) := fun hb => hb.upd.blk h7' S3
  have hpt : (planText p).length ≤ 262244 := by
    have := numsText_len p.nums hp.nums
    have h7 : p.nums.length = 7 := rfl
    simp only [planText, List.length_append, List.length_singleton]
    have h4 : planWord.length = 4 := rfl
    omega
  intro L1 hL1
  suffices hh : ∀ (rest : List Int) (i : Nat) (q : Option Addr) (n c : Nat) (l : List UInt8) (w8 : World), i + rest.length = 7 → p.nums.drop i = rest → planWord ++ numsText p.nums = l ++ numsText rest → BS S w7 w8 q n c l → L1 [.slice q n c, .int .i64 (i : Int)] w8 from
    hh p.nums 0 q1 n1 c1 planWord w7 rfl rfl rfl bs7
  intro rest
  induction rest with
  | cons x rest ih =>
    intro i q n c l w8 hi hdrop htext hb
    simp only [List.length_cons] at hi
    have hni : p.nums[i]? = some x := by
      have : (p.nums.drop i)[0]? = some x := by rw [hdrop]; rfl
      simpa using this
    have hnr := hp.nums x (List.mem_of_getElem? hni)
    have hll : l.length ≤ 1000 := by
      have h1 := congrArg List.length htext
      have h2 := numsText_len p.nums hp.nums
      have h7 : p.nums.length = 7 := rfl
      have h4 : planWord.length = 4 := rfl
      simp only [List.length_append] at h1
      omega
    refine hL1 _ _ _ _ _ fun _ => if_t (by rw [iLt_t]; omega) ?_
    refine appB_s (b := 32) hb rfl (by omega) (fun q3 n3 c3 w11 hb11 => ?_)
    simp only [asL_at]
    refine ⟨by unfold inB; omega, ?_⟩
    rintro d rfl
    rw [Int.toNat_natCast, zero_add_pl]
    refine ld_blk (ar hb11) (v := .int .i64 x) (by simp [hni]) ?_
    refine dec21_el hnr.1 hnr.2 (fun w12 hx12 => ?_)
    have hil := Lib.itoa_length_le x hnr.1 hnr.2
    refine appS_s (s := bs (Lib.itoa x)) (hb11.on hx12) (by rw [bs_size, List.length_append]; simp; omega) (fun q4 n4 c4 w14 hb14 => ?_)
    simp only [asL_at]
    have hnext : iAdd .i64 (i : Int) 1 = ((i + 1 : Nat) : Int) := by rw [iAdd_i64 (by omega) (by omega)]; omega
    rw [hnext]
    refine ih (i + 1) q4 n4 c4 _ w14 (by omega) (by rw [← List.drop_drop, hdrop]; rfl) ?_ hb14
    rw [htext]
    show _ = l ++ [32] ++ Lib.itoa x ++ numsText rest
    simp [numsText]
  | nil =>
    intro i q n c l w8 hi hdrop htext hb
    simp only [List.length_nil] at hi
    refine hL1 _ _ _ _ _ fun _ => if_f (by rw [iLt_f]; omega) ?_
    have hl8 : l ++ [10] = planText p := by
      have : l = planWord ++ numsText p.nums := by rw [htext]; simp [numsText]
      rw [this]; rfl
    have hll : l.length ≤ 262244 := by have := congrArg List.length hl8; rw [List.length_append] at this; omega
    refine appB_s (b := 10) hb rfl (by omega) (fun q5 n5 c5 w17 hb17 => ?_)
    simp only [asL_at]
    rw [hl8] at hb17
    intro L2 hL2
    -- behind the pipeline's lines
    have behind : ∀ {L3 : List Value → World → Prop}, (∀ q18 q18l q18c n13 w41, (∀ _ : Env,
        cnd (iLt n13 (lenN sl)) (
        inB n13 sl ∧ nn sq fun d9 =>
        ∀ d8, d8 = Addr.add d9 (scale (Int.toNat n13) 5) →
        ld w41 d8 fun v45 =>
        asI .i64 v45 fun n14 =>
        ld w41 (Addr.add d8 1) fun v46 =>
        asI .i64 v46 fun n15 =>
        ld w41 (Addr.add d8 2) fun v47 =>
        asI .i64 v47 fun n16 =>
        ld w41 (Addr.add d8 3) fun v48 =>
        asI .u64 v48 fun n17 =>
        ld w41 (Addr.add d8 4) fun v49 =>
        asF .f64 v49 fun x2 =>
        call P n_repriseref21_Line [.agg #[.int .i64 n14, .int .i64 n15, .int .i64 n16, .int .u64 n17, .float .f64 x2]] w41 (fun v50 w43 =>
        tuN 2 v50 (fun v51 v52 => show Prop from
        asS v51 fun s5 =>
        asI .i64 v52 fun n18 =>
        cnd (iNe n18 0) (
        K (.tuple #[.string (bs []), .int .i64 n18]) w43) (
        runV P (Builtin.append_ #[39, 9] 39 #[.slice q18 q18l q18c, .string s5]) w43 (fun v54 w45 =>
        asL v54 fun q19 q19l q19c =>
        al w45 (.cells (#[.int .u8 10]) 5) fun k9 w46 =>
        runV P (Builtin.append_ #[39, 39] 39 #[.slice q19 q19l q19c, .slice (some ⟨k9, 0, none⟩) 1 1]) w46 (fun v56 w48 =>
        asL v56 fun q20 q20l q20c =>
        L3 [.slice q20 q20l q20c, .int .i64 (iAdd .i64 n13 1)] w48) X) X))) X) (
        cnd (iGt (lenN q18l) 262144) (
        K (.tuple #[.string (bs []), .int .i64 6]) w41) (
        runV P (convert 39 9 (.slice q18 q18l q18c)) w41 (fun v58 w50 =>
        asS v58 fun s6 =>
        K (.tuple #[.string s6, .int .i64 0]) w50) X))) → L3 [.slice q18 q18l q18c, .int .i64 n13] w41) →
        ∀ q n c w', BS S w7 w' q n c (opsText (planText p) p.ops) → L3 [.slice q n c, .int .i64 0] w' := by
      intro L3 hL3 q n c w' hb
      have hol9 := opsText_len p.ops (planText p) hp.ops hpt
      suffices hh : ∀ (rest : List St) (i : Nat) (q' : Option Addr) (n' c' : Nat) (l' : List UInt8) (w' : World), i + rest.length = steps.length → steps.drop i = rest → stepsText (opsText (planText p) p.ops) steps = stepsText l' rest → l'.length ≤ 262244 + 100 * i →
          BS S w7 w' q' n' c' l' → L3 [.slice q' n' c', .int .i64 (i : Int)] w' from hh steps 0 q n c _ w' (by omega) rfl rfl (by omega) hb
      intro rest
      induction rest with
      | nil =>
        intro i q' n' c' l' w' hi hdrop htext hl' hb
        simp only [List.length_nil] at hi
        refine hL3 _ _ _ _ _ fun _ => if_f (by rw [iLt_f, lenN_el]; omega) ?_
        have hspec : printSpec p steps = if 262144 < l'.length then .error 6 else .ok l' := by
          unfold printSpec; rw [if_neg (by omega), htext]; rfl
        have hn := hb.len
        refine cnd_i (fun hgt => ?_) (fun hgt => ?_)
        · rw [iGt_t, lenN_el] at hgt
          have := h w' (ext hb)
          rw [hspec, if_pos (by omega)] at this
          exact this
        · rw [iGt_f, lenN_el] at hgt
          refine conv_str (l := l') Go.Proofs.Tryz.underlying39 Go.Proofs.Tryz.underlying5 Go.Proofs.Tryz.underlying9 hn hb.row.cells ?_
          have := h w' (ext hb)
          rw [hspec, if_neg (by omega)] at this
          exact this
      | cons t rest ih =>
        intro i q' n' c' l' w' hi hdrop htext hl' hb
        have hti : steps[i]? = some t := by
          have : (steps.drop i)[0]? = some t := by rw [hdrop]; rfl
          simpa using this
        have htw := hst t (List.mem_of_getElem? hti)
        simp only [List.length_cons] at hi
        obtain ⟨d, hd, hcell⟩ := flat_cells (f := St.cells) (size := 5) (by decide) stepCells_len (hs.ext (ext hb)) hti
        refine hL3 _ _ _ _ _ fun _ => if_t (by rw [iLt_t, lenN_el]; omega) ⟨by unfold inB; omega, ?_⟩
        rw [hd, nn_at]
        rintro d' rfl
        rw [scale_eq, Int.toNat_natCast]
        refine ld_cell (hcell 0 (by decide) _ rfl) ?_
        refine ld_cell (hcell 1 (by decide) _ rfl) ?_
        refine ld_cell (hcell 2 (by decide) _ rfl) ?_
        refine ld_cell (hcell 3 (by decide) _ rfl) ?_
        refine ld_cell (hcell 4 (by decide) _ rfl) ?_
        refine line21_el (t := t) htw (fun hbad w16 hx16 => ?_) (fun g1 g2 hbad w16 hx16 => ?_) (fun g1 g2 hbad w16 hx16 => ?_)
        · obtain ⟨e, he⟩ : ∃ e : Int, e = 200 := ⟨_, rfl⟩
          have := h w16 ((ext hb).trans hx16)
          have hspec : printSpec p steps = .error 200 := by
            unfold printSpec; rw [if_neg (by omega), htext]; unfold stepsText; rw [if_pos hbad]
          rw [hspec] at this
          rw [← he] at this ⊢
          show cnd (iNe e 0) _ _
          exact if_t (by rw [iNe_t]; omega) this
        · obtain ⟨e, he⟩ : ∃ e : Int, e = 1 := ⟨_, rfl⟩
          have := h w16 ((ext hb).trans hx16)
          have hspec : printSpec p steps = .error 1 := by
            unfold printSpec; rw [if_neg (by omega), htext]; unfold stepsText; rw [if_neg (by omega), if_pos hbad]
          rw [hspec] at this
          rw [← he] at this ⊢
          show cnd (iNe e 0) _ _
          exact if_t (by rw [iNe_t]; omega) this
        · obtain ⟨e, he⟩ : ∃ e : Int, e = 0 := ⟨_, rfl⟩
          have hll := lineText_len htw
          have hlt : lineText t = wordAt t.kind.toNat ++ argsText t (askAt t.kind.toNat) ++ [10] := rfl
          have hll2 := congrArg List.length hlt
          rw [List.length_append] at hll2
          have hstep : stepsText (opsText (planText p) p.ops) steps = stepsText (l' ++ lineText t) rest := by
            rw [htext]; conv => lhs; unfold stepsText
            rw [if_neg (by omega), if_neg hbad]
          obtain ⟨lt, hlt'⟩ : ∃ lt, wordAt t.kind.toNat ++ argsText t (askAt t.kind.toNat) = lt := ⟨_, rfl⟩
          rw [hlt'] at hlt hll2 ⊢
          rw [show (.tuple #[.string (bs lt), .int .i64 0] : Value) = .tuple #[.string (bs lt), .int .i64 e] from by rw [he]]
          show cnd (iNe e 0) _ _
          refine if_f (by rw [iNe_f]; exact he) ?_
          simp only [List.length_singleton] at hll2
          refine appS_s (s := bs lt) (hb.on hx16) (by rw [bs_size]; omega) (fun q19 n19 c19 w45 hb45 => ?_)
          simp only [asL_at]
          refine appB_s (b := 10) hb45 rfl (by rw [List.length_append]; show _ + lt.length ≤ _; omega) (fun q20 n20 c20 w48 hb48 => ?_)
          simp only [asL_at]
          have hnext : iAdd .i64 (i : Int) 1 = ((i + 1 : Nat) : Int) := by rw [iAdd_i64 (by omega) (by omega)]; omega
          rw [hnext]
          have e1 : l' ++ (bs lt).data.toList ++ [10] = l' ++ lineText t := by rw [hlt]; show l' ++ lt ++ [10] = _; simp
          rw [e1] at hb48
          exact ih (i + 1) q20 n20 c20 _ w48 (by omega) (by rw [← List.drop_drop, hdrop]; rfl) hstep (by rw [List.length_append]; omega) hb48
    suffices hh : ∀ (rest : List OpR) (i : Nat) (q' : Option Addr) (n' c' : Nat) (l' : List UInt8) (w' : World), i + rest.length = p.ops.length → p.ops.drop i = rest → opsText (planText p) p.ops = opsText l' rest → l'.length ≤ 262244 →
        BS S w7 w' q' n' c' l' → L2 [.slice q' n' c', .int .i64 (i : Int)] w' from hh p.ops 0 q5 n5 c5 _ w17 (by omega) rfl rfl hpt hb17
    intro rest
    induction rest with
    | nil =>
      intro i q' n' c' l' w' hi hdrop htext hl' hb
      simp only [List.length_nil] at hi
      refine hL2 _ _ _ _ _ fun _ => ?_
      refine ld_blk (pl hb) (v := .slice oq ol oc) rfl ?_
      simp only [asL_at]
      intro K1 hK1
      refine if_f (by rw [iLt_f, lenN_el]; omega) ?_
      refine hK1 _ _ fun _ => if_f rfl ?_
      intro L3 hL3
      refine behind hL3 _ _ _ _ ?_
      rw [htext]; exact hb
    | cons o rest ih =>
      intro i q' n' c' l' w' hi hdrop htext hl' hb
      have hoi : p.ops[i]? = some o := by
        have : (p.ops.drop i)[0]? = some o := by rw [hdrop]; rfl
        simpa using this
      have how := hp.ops o (List.mem_of_getElem? hoi)
      simp only [List.length_cons] at hi
      have hn := hb.len
      refine hL2 _ _ _ _ _ fun _ => ?_
      refine ld_blk (pl hb) (v := .slice oq ol oc) rfl ?_
      simp only [asL_at]
      intro K1 hK1
      refine if_t (by rw [iLt_t, lenN_el]; omega) ?_
      by_cases hgt : 262144 < l'.length
      · rw [show iLe (lenN n') 262144 = false from by rw [iLe_f, lenN_el]; omega]
        refine hK1 _ _ fun _ => if_f rfl ?_
        intro L3 hL3
        refine behind hL3 _ _ _ _ ?_
        rw [htext]; unfold opsText; rw [if_pos (by omega)]; exact hb
      rw [show iLe (lenN n') 262144 = true from by rw [iLe_t, lenN_el]; omega]
      refine hK1 _ _ fun _ => if_t rfl ?_
      have hl1 := Lib.itoa_length_le _ how.k0 how.k1
      have hl2 := Lib.itoa_length_le _ how.n0 how.n1
      have hl3 : (hexText o.x).length = 16 := hexFill_len 16 o.x
      have b0 : ∀ l : List UInt8, (bs l).data.toList = l := fun _ => rfl
      have cellsAt : ∀ {w' q n c l}, BS S w7 w' q n c l → ∃ d, oq = some d ∧ ∀ j, j < 3 → ∀ v, o.cells[j]? = some v → w'.cell? ((d.add (i * 3)).add j) = some v := fun hb => by
        obtain ⟨d, hd, hcell⟩ := flat_cells (f := OpR.cells) (size := 3) (by decide) opCells_len (ho.ext (ext hb)) hoi
        exact ⟨d, hd, fun j hj v hv => hcell j hj v hv⟩
      refine appS_s (s := bs [111, 112, 32]) hb (by rw [bs_size]; simp; omega) (fun q8 n8 c8 w22 hb22 => ?_)
      simp only [asL_at]
      rw [b0] at hb22
      refine ld_blk (pl hb22) (v := .slice oq ol oc) rfl ?_
      simp only [asL_at]
      obtain ⟨d, hd, hcell⟩ := cellsAt hb22
      refine ⟨by unfold inB; omega, ?_⟩
      rw [hd, nn_at]
      rintro d' rfl
      rw [scale_eq, Int.toNat_natCast]
      refine ld_cell (hcell 0 (by decide) _ rfl) ?_
      refine dec21_el how.k0 how.k1 (fun w23 hx23 => ?_)
      refine appS_s (s := bs (Lib.itoa o.kind)) (hb22.on hx23) (by rw [bs_size, List.length_append]; simp; omega) (fun q10 n10 c10 w25 hb25 => ?_)
      simp only [asL_at]
      rw [b0] at hb25
      refine appB_s (b := 32) hb25 rfl (by simp only [List.length_append]; simp; omega) (fun q11 n11 c11 w28 hb28 => ?_)
      simp only [asL_at]
      refine ld_blk (pl hb28) (v := .slice oq ol oc) rfl ?_
      simp only [asL_at]
      obtain ⟨d2, hd2, hcell2⟩ := cellsAt hb28
      refine ⟨by unfold inB; omega, ?_⟩
      rw [hd2, nn_at]
      rintro d' rfl
      refine ld_cell (hcell2 1 (by decide) _ rfl) ?_
      refine dec21_el how.n0 how.n1 (fun w29 hx29 => ?_)
      refine appS_s (s := bs (Lib.itoa o.n)) (hb28.on hx29) (by rw [bs_size]; simp only [List.length_append]; simp; omega) (fun q13 n13 c13 w31 hb31 => ?_)
      simp only [asL_at]
      rw [b0] at hb31
      refine appB_s (b := 32) hb31 rfl (by simp only [List.length_append]; simp; omega) (fun q14 n14 c14 w34 hb34 => ?_)
      simp only [asL_at]
      refine ld_blk (pl hb34) (v := .slice oq ol oc) rfl ?_
      simp only [asL_at]
      obtain ⟨d3, hd3, hcell3⟩ := cellsAt hb34
      refine ⟨by unfold inB; omega, ?_⟩
      rw [hd3, nn_at]
      rintro d' rfl
      refine ld_cell (hcell3 2 (by decide) _ rfl) ?_
      refine hex21_el how.x ?_
      obtain ⟨hx, hhx⟩ : ∃ hx, hexText o.x = hx := ⟨_, rfl⟩
      rw [hhx] at hl3 ⊢
      refine appS_s (s := bs hx) hb34 (by rw [bs_size, hl3]; simp only [List.length_append]; simp; omega) (fun q16 n16 c16 w37 hb37 => ?_)
      simp only [asL_at]
      rw [b0] at hb37
      refine appB_s (b := 10) hb37 rfl (by simp only [List.length_append, hl3]; simp; omega) (fun q17 n17 c17 w40 hb40 => ?_)
      simp only [asL_at]
      have hnext : iAdd .i64 (i : Int) 1 = ((i + 1 : Nat) : Int) := by rw [iAdd_i64 (by omega) (by omega)]; omega
      rw [hnext]
      have e1 : l' ++ [111, 112, 32] ++ Lib.itoa o.kind ++ [32] ++ Lib.itoa o.n ++ [32] ++ hx ++ [10] = l' ++ opText o := by simp [opText, hhx]
      rw [e1] at hb40
      have hop := opText_len how
      refine ih (i + 1) q17 n17 c17 _ w40 (by omega) (by rw [← List.drop_drop, hdrop]; rfl) ?_ (by rw [List.length_append]; omega) hb40
      rw [htext]; conv => lhs; unfold opsText
      rw [if_neg (by omega)]

theorem prints_el {p : PlanR} {oq : Option Addr} {ol oc : Nat} {steps : List St} {sq : Option Addr} {sl sc : Nat} {w : World} {K : Value → World → Prop} {X : List PanicEntry → World → Prop} (hw : Lw w) (hp : PS w p oq ol oc steps sq sl sc)
    (h : ∀ w', Ext w w' → K (.bool true) w') : call P n_repriselaw21_ScriptPrints [.agg (p.cells oq ol oc).toArray, .slice sq sl sc] w K X := by
  refine repriselaw21_ScriptPrints.call ?_
  unfold repriselaw21_ScriptPrints.F
  refine al_el fun k1 w1 hk1 hb1 hx1 hs1 => ?_
  refine awake_el (hw.ext hx1) (fun w2 hx2 => ?_)
  simp only [asB_at]
  refine if_f rfl ?_
  have hb2 : w2.heap[k1]? = some (.cells (p.cells oq ol oc).toArray 24 (0, 0)) := hx2.blk hb1 (fun h => h)
  have hw2 : Ext w w2 := hx1.trans hx2
  refine ld_plan hb2 ?_
  have hol : p.ops.length ≤ 9223372036854775807 := by rw [← hp.nops]; exact Nat.le_trans hp.ole hp.omax
  have hsl : steps.length ≤ 9223372036854775807 := by rw [← hp.nsts]; exact Nat.le_trans hp.sle hp.smax
  refine print_el (p := p) (steps := steps) (hw.ext hw2) hp.wf (hp.ops.ext hw2) hp.nops (hp.sts.ext hw2) hp.nsts hp.swf hol hsl (fun w3 hx3 => ?_)
  obtain ⟨S, E, hSE⟩ : ∃ S E, printV (printSpec p steps) = .tuple #[.string S, .int .i64 E] := by
    cases printSpec p steps with
    | ok u => exact ⟨_, _, rfl⟩
    | error e => exact ⟨_, e, rfl⟩
  rw [hSE]
  have hw3 : Ext w w3 := hw2.trans hx3
  refine ld_plan (hx3.blk hb2 (fun h => h)) ?_
  refine print21_el (p := p) (steps := steps) hp.wf (hp.ops.ext hw3) hp.nops (hp.sts.ext hw3) hp.nsts hp.swf hol (fun w4 hx4 => ?_)
  rw [hSE]
  intro K1 hK1
  refine if_t (by rw [sEq_t]) ?_
  have eE : iEq E E = true := by rw [iEq_t]
  show K1 [.bool (iEq E E)] w4
  rw [eE]
  exact hK1 _ _ fun _ => h w4 (hw3.trans hx4)
end Go.Proofs.YtgfbkmclekafbaaGreatDoor
