/- ScriptForth: true. -/
import Derived.Test.YtgfbkmclekafbaaGreatDoorQConD
import Derived.Test.YtgfbkmclekafbaaGreatDoorQRd4
set_option linter.unusedVariables false
set_option linter.unusedSimpArgs false
set_option linter.unnecessarySimpa false
set_option maxRecDepth 100000
namespace Go.Proofs.YtgfbkmclekafbaaGreatDoor
open Go Go.Vc

theorem forth_el {s : ByteArray} {w : World} {K : Value → World → Prop} {X : List PanicEntry → World → Prop} (hw : Lw w) (hs : s.size < 4294967181) (h : ∀ w', Ext w w' → K (.bool true) w') :
    call P n_repriselaw21_ScriptForth [.string s] w K X := by
  refine repriselaw21_ScriptForth.call ?_
  unfold repriselaw21_ScriptForth.F
  refine awake_el hw (fun w1 hx1 => ?_)
  simp only [asB_at]
  refine if_f rfl ?_
  obtain ⟨R, hR⟩ : ∃ R, parseText s.data.toList = R := ⟨_, rfl⟩
  refine parseR_el (hw.ext hx1) hs hR (fun oq ol oc sq sl sc w2 hp => ?_)
  have hno := forth_no (l := s.data.toList)
  have hyes := forth_ok (l := s.data.toList)
  rw [hR] at hno hyes
  refine al_el fun k1 w3 hk1 hb1 hx3 hs3 => ?_
  refine st_el hb1 (by simp) fun w4 h4 hu4 hs4 => ?_
  have hx4 : Ext w2 w4 := Ext.upd hx3 hu4 (fun i hi => by omega)
  have h4' : w4.heap[k1]? = some (.cells (R.p.cells oq ol oc).toArray 24 (0, 0)) := h4
  have hw4 : Ext w w4 := (hx1.trans hp.ext).trans hx4
  have hop := hp.cellsO.ext hx4
  have hst := hp.cellsS.ext hx4
  refine cnd_i (fun hg => ?_) (fun hg => ?_)
  · rw [iNe_t] at hg
    obtain ⟨g1, g2, g3, g4⟩ := hno hg
    refine ld_blk h4' (v := .int .i64 R.p.p0) rfl ?_
    refine ld_blk h4' (v := .int .i64 R.p.p1) rfl ?_
    refine ld_blk h4' (v := .int .i64 R.p.p2) rfl ?_
    refine ld_blk h4' (v := .slice oq ol oc) rfl ?_
    refine ld_blk h4' (v := .int .i64 R.p.p4) rfl ?_
    refine ld_blk h4' (v := .int .i64 R.p.p5) rfl ?_
    refine ld_blk h4' (v := .int .i64 R.p.p6) rfl ?_
    refine ld_blk h4' (v := .int .i64 R.p.p7) rfl ?_
    refine plans_el (p := R.p) (r := zeroPlan) (oq' := none) (ol' := 0) (oc' := 0) hop (.inl rfl) hp.nops rfl (by rw [g1]; decide) (fun b w5 hb hx5 => ?_)
    obtain rfl : b = true := hb.2 g1
    intro K1 hK1
    refine if_t rfl ?_
    have e1 : iEq (lenN sl) 0 = true := by rw [iEq_t, lenN_el, hp.nsteps, g2]; rfl
    rw [e1]
    refine hK1 _ _ fun _ => ?_
    intro K2 hK2
    refine if_t rfl ?_
    have e2 : iGe (R.at_ : Int) 0 = true := by rw [iGe_t]; omega
    rw [e2]
    refine hK2 _ _ fun _ => ?_
    intro K3 hK3
    refine if_t rfl ?_
    have e3 : (iEq (R.at_ : Int) 0 == iEq R.e 6) = true := by
      rw [beq_iff_eq, Bool.eq_iff_iff, iEq_t, iEq_t, ← g3]; omega
    rw [e3]
    refine hK3 _ _ fun _ => ?_
    intro K4 hK4
    refine if_t rfl ?_
    have e4 : (iEq R.e 6 == iGt (lenN (ByteArray.size s)) 262144) = true := by
      rw [beq_iff_eq, Bool.eq_iff_iff, iEq_t, iGt_t, lenN_el, g4, size_len]; omega
    rw [e4]
    refine hK4 _ _ fun _ => ?_
    exact h w5 (hw4.trans hx5)
  · rw [iNe_f] at hg
    obtain ⟨g1, g2, g3, g4, g5⟩ := hyes hg
    refine ld_blk h4' (v := .int .i64 R.p.p0) rfl ?_
    refine ld_blk h4' (v := .int .i64 R.p.p1) rfl ?_
    refine ld_blk h4' (v := .int .i64 R.p.p2) rfl ?_
    refine ld_blk h4' (v := .slice oq ol oc) rfl ?_
    refine ld_blk h4' (v := .int .i64 R.p.p4) rfl ?_
    refine ld_blk h4' (v := .int .i64 R.p.p5) rfl ?_
    refine ld_blk h4' (v := .int .i64 R.p.p6) rfl ?_
    refine ld_blk h4' (v := .int .i64 R.p.p7) rfl ?_
    have hol : R.p.ops.length < 4294967296 := by
      have h1 := hp.ops.le
      have h2 : (ends (linesP R.p R.steps)).length = (bareF [] [] s.data.toList).length := by rw [g5]
      have h3 : ∀ ls : List (List UInt8), ls.length ≤ (ends ls).length := by
        intro ls
        induction ls with
        | nil => simp
        | cons x t ih => rw [ends_cons]; simp only [List.length_cons, List.length_append]; omega
      have h4 := h3 (linesP R.p R.steps)
      have h5 : ∀ (l cur : List UInt8), (ends (kept (cutAt 10 cur l))).length ≤ cur.length + l.length + 1 := by
        intro l
        induction l with
        | nil => intro cur; rw [cutAt]; by_cases hk : skipL cur = true <;> simp [kept, hk, ends]
        | cons x t ih =>
          intro cur
          rw [cutAt]
          split
          · have := ih []
            by_cases hk : skipL cur = true <;> simp [kept, hk, ends] at this ⊢ <;> omega
          · have := ih (cur ++ [x])
            simp only [List.length_append, List.length_cons, List.length_nil] at this ⊢; omega
      have h6 := h5 s.data.toList []
      rw [bare_eq] at h2
      simp only [List.nil_append, List.length_nil, Nat.zero_add] at h2 h6
      have h7 := size_len s
      have h8 : (linesP R.p R.steps).length = 1 + (R.p.ops.length + R.steps.length) := by simp [linesP]; omega
      omega
    refine print_el (p := R.p) (steps := R.steps) ((hw.ext hw4)) g2 hop hp.nops hst hp.nsteps (fun t ht => (g3 t ht).2.2.2) hol (by omega) (fun w5 hx5 => ?_)
    rw [print_ok g4 (fun t ht => ⟨(g3 t ht).1, (g3 t ht).2.1, (g3 t ht).2.2.1⟩), g5]
    obtain ⟨want, hwant⟩ : ∃ want, bareF [] [] s.data.toList = want := ⟨_, rfl⟩
    rw [hwant]
    have hfin : Ext w w5 := hw4.trans hx5
    by_cases hbig : 262144 < want.length
    · rw [if_pos hbig]
      refine bare_el (by omega) (fun w6 hx6 => ?_)
      rw [hwant]
      refine if_t (by rw [iGt_t, lenN_el, size_len]; show (262144 : Int) < ((want.length : Nat) : Int); omega) ?_
      intro K5 hK5
      refine if_t rfl ?_
      refine hK5 _ _ fun _ => ?_
      have hse : sEq (bs []) (bs []) = true := by rw [sEq_t]
      show K (.bool (sEq (bs []) (bs []))) w6
      rw [hse]
      exact h w6 (hfin.trans hx6)
    · rw [if_neg hbig]
      refine bare_el (by omega) (fun w6 hx6 => ?_)
      rw [hwant]
      refine if_f (by rw [iGt_f, lenN_el, size_len]; show ((want.length : Nat) : Int) ≤ 262144; omega) ?_
      intro K6 hK6
      refine if_t (by rw [iEq_t, g1]; rfl) ?_
      refine hK6 _ _ fun _ => ?_
      intro K7 hK7
      refine if_t rfl ?_
      have hse : sEq (⟨want.toArray⟩ : ByteArray) ⟨want.toArray⟩ = true := by rw [sEq_t]
      show K7 [.bool (sEq (⟨want.toArray⟩ : ByteArray) ⟨want.toArray⟩)] w6
      rw [hse]
      refine hK7 _ _ fun _ => ?_
      exact h w6 (hfin.trans hx6)
end Go.Proofs.YtgfbkmclekafbaaGreatDoor

/- ScriptMany: true. -/
set_option maxRecDepth 100000
namespace Go.Proofs.YtgfbkmclekafbaaGreatDoor
open Go Go.Vc

def tickLn : List UInt8 := [116, 105, 99, 107, 10]
def headLn : List UInt8 := [112, 108, 97, 110, 32, 49, 32, 49, 32, 49, 32, 50, 32, 52, 32, 50, 32, 56, 10]
def ticks (n : Nat) : List UInt8 := (List.replicate n tickLn).flatten
theorem ticks_len (n : Nat) : (ticks n).length = 5 * n := by
  induction n with
  | zero => rfl
  | succ n ih => rw [ticks, List.replicate_succ, List.flatten_cons, List.length_append]; rw [ticks] at ih; rw [ih]; simp [tickLn]; omega
theorem ticks_succ (n : Nat) : ticks (n + 1) = ticks n ++ tickLn := by
  rw [ticks, List.replicate_succ', List.flatten_append]; simp [ticks]
def manySteps : List St := List.replicate 4096 wt1
theorem many_ends : headLn ++ ticks 4096 = ends (linesP wp0 manySteps) := by
  have h1 : ends (manySteps.map stepLine) = ticks 4096 := by
    rw [manySteps, List.map_replicate, ends, List.map_replicate, wt1_line]; rfl
  unfold linesP
  rw [show wp0.ops = [] from rfl, List.map_nil, List.nil_append, ends_cons, h1, wp0_line]; rfl
theorem many_ok : ∀ t ∈ manySteps, StOk t := by
  intro t ht
  rw [manySteps, List.mem_replicate] at ht
  rw [ht.2]; exact wt_ok wt1 (by simp)
theorem many_len : manySteps.length = 4096 := by rw [manySteps, List.length_replicate]
theorem wp0_wf : wp0.wf := ⟨fun n hn => wp1_wf.nums n hn, fun o ho => by cases ho⟩
theorem many_parse : parseText (headLn ++ ticks 4096) = ⟨wp0, manySteps, 0, 0⟩ := by
  refine parse_print wp0_wf (fun t ht => (many_ok t ht).2.2.2) ?_
  rw [print_ok (by rw [many_len]; exact Nat.le_refl _) (fun t ht => ⟨(many_ok t ht).1, (many_ok t ht).2.1, (many_ok t ht).2.2.1⟩), ← many_ends, if_neg]
  rw [List.length_append, ticks_len]; decide
theorem many_more {x : List UInt8} (hx : (10 : UInt8) ∉ x) (hs : skipL x = false) (hl : x.length ≤ 1000) : parseText (headLn ++ ticks 4096 ++ [10] ++ x ++ [10]) = ⟨zeroPlan, [], 4099, 212⟩ := by
  have hrun := run_lines (p := wp0) (steps := manySteps) wp0_wf (by rw [many_len]; exact Nat.le_refl _) many_ok
  have hcut : cutAt 10 [] (headLn ++ ticks 4096 ++ [10] ++ x ++ [10]) = linesP wp0 manySteps ++ [[], x, []] := by
    rw [many_ends, List.append_assoc, List.append_assoc, cut_ends _ _ (linesP_no10 _ _)]
    congr 1
    rw [List.singleton_append, cutAt, if_pos rfl, cutAt_at x [] [] hx]; simp [cutAt]
  have hlen : (linesP wp0 manySteps).length = 4097 := by simp [linesP, many_len, wp0]
  unfold parseText
  rw [if_neg (by simp only [List.length_append, ticks_len, List.length_cons, List.length_nil, headLn]; omega), hcut, parseL_run _ _ _ _ hrun, hlen]
  have h0 : stepL ⟨wp0, manySteps, true⟩ [] = .ok ⟨wp0, manySteps, true⟩ := rfl
  have h1 : stepL ⟨wp0, manySteps, true⟩ x = .error 212 := by
    unfold stepL
    rw [if_neg (by rw [hs]; decide)]
    obtain ⟨w, args, hb, _⟩ := line_blanks x
    rw [hb]
    unfold lineSpec
    simp only [List.map_cons]
    rw [if_neg (by decide), if_neg, if_neg]
    · rw [many_len]; decide
    · rintro ⟨_, h⟩
      have := many_len
      rw [h] at this; cases this
  rw [parseL, h0]
  simp only
  rw [parseL, h1]

theorem many_print {p : PlanR} : printSpec p (manySteps ++ [wt1]) = .error 212 := by
  unfold printSpec
  rw [if_pos (by rw [List.length_append, many_len]; decide)]
end Go.Proofs.YtgfbkmclekafbaaGreatDoor

/- ScriptMany: its walk. -/
set_option maxRecDepth 100000
namespace Go.Proofs.YtgfbkmclekafbaaGreatDoor
open Go Go.Vc

theorem many_el {s : ByteArray} {over : Int} {w : World} {K : Value → World → Prop} {X : List PanicEntry → World → Prop} (hw : Lw w) (hs : s.size ≤ 9223372036854775807) (ho : -9223372036854775808 ≤ over ∧ over ≤ 9223372036854775807) (h : ∀ w', Ext w w' → K (.bool true) w') :
    call P n_repriselaw21_ScriptMany [.string s, .int .i64 over] w K X := by
  refine repriselaw21_ScriptMany.call ?_
  unfold repriselaw21_ScriptMany.F
  refine awake_el hw (fun w1 hx1 => ?_)
  simp only [asB_at]
  refine if_f rfl ?_
  have hsl := size_len s
  -- the word is looked through
  intro L1 hL1
  have go : ∀ (k i : Nat) (w2 : World), i + k = s.size → Ext w w2 → (∀ j, j < i → s.data.toList[j]? ≠ some 10) → L1 [.int .i64 (i : Int)] w2 := by
    intro k
    induction k with
    | succ k ih =>
      intro i w2 hi hx2 hno
      refine hL1 _ _ fun _ => if_t (by rw [iLt_t, lenN_el]; omega) ⟨by unfold inB; omega, ?_⟩
      have hil : i < s.data.toList.length := by omega
      have hci := List.getElem?_eq_getElem hil
      rw [bt_at hci]
      refine cnd_i (fun hg => h w2 hx2) (fun hg => ?_)
      rw [iEq_f] at hg
      have hnext : iAdd .i64 (i : Int) 1 = ((i + 1 : Nat) : Int) := by rw [iAdd_i64 (by omega) (by omega)]; omega
      rw [hnext]
      refine ih (i + 1) w2 (by omega) hx2 (fun j hj => ?_)
      by_cases hji : j = i
      · subst hji
        rw [hci]
        intro hq
        simp only [Option.some.injEq] at hq
        apply hg; rw [hq]; rfl
      · exact hno j (by omega)
    | zero =>
      intro i w2 hi hx2 hno
      have hn10 : (10 : UInt8) ∉ s.data.toList := by
        intro hm
        obtain ⟨j, hj, he⟩ := List.mem_iff_getElem.1 hm
        exact hno j (by omega) (by rw [List.getElem?_eq_getElem hj, he])
      refine hL1 _ _ fun _ => if_f (by rw [iLt_f, lenN_el]; omega) ?_
      intro K1 hK1
      -- the law's guards let it through
      have goon : skipL s.data.toList = false → s.size ≤ 1000 → ∀ w5, Ext w w5 → K1 [.bool false] w5 := by
        intro hsk hlen w5 hx5
        refine hK1 _ _ fun _ => ?_
        intro K2 hK2
        refine if_f rfl ?_
        rw [show iGt (lenN (ByteArray.size s)) 1000 = false from by rw [iGt_f, lenN_el]; omega]
        refine hK2 _ _ fun _ => ?_
        refine if_f rfl ?_
        refine al_el fun k1 w6 hk1 hb1 hx6 hs6 => ?_
        refine conv_same Go.Proofs.Tryz.underlying39 Go.Proofs.Tryz.underlying5 hb1 (fun w7 hu7 hb7 => ?_)
        simp only [asL_at]
        have hx7 : Ext w5 w7 := Ext.upd hx6 hu7 (fun i hi => by omega)
        have hcells0 : Cells w7 (some ⟨k1, 0, none⟩) (headLn.map byteVal) := .inr ⟨_, rfl, rfl, fun j hj => by
          rw [add_pl]; refine cell_blk hb7 ?_
          rw [Nat.zero_add, ← Array.getElem?_toList]; exact List.getElem?_eq_getElem hj⟩
        obtain ⟨inf, hi', hsize, hby, hz⟩ := info_of (P := P) (e := 5) (size := 1) (bytes := 1) (z := .int .u8 0) (by kernel_rfl) (by kernel_rfl)
        intro L2 hL2
        have loop : ∀ (m n : Nat) (q : Option Addr) (c : Nat) (w8 : World), n + m = 4096 → Row w8 5 1 q (19 + 5 * n) c ((headLn ++ ticks n).map byteVal) → (∀ x, blkOf q = some x → w.heap.size ≤ x) → Ext w w8 →
            L2 [.slice q (19 + 5 * n) c, .int .i64 (n : Int)] w8 := by
          intro m
          induction m with
          | succ m ihm =>
            intro n q c w8 hnm hrow hlo hx8
            refine hL2 _ _ _ _ _ fun _ => if_t (by rw [iLt_t]; omega) ?_
            refine append_str Go.Proofs.Tryz.underlying39 Go.Proofs.Tryz.underlying9 hi' hz hsize hby hrow (by show 19 + 5 * n + 5 ≤ _; omega) fun q2 c2 w9 hrow2 hu9 hfr9 => ?_
            have hnext : iAdd .i64 (n : Int) 1 = ((n + 1 : Nat) : Int) := by rw [iAdd_i64 (by omega) (by omega)]; omega
            simp only [asL_at]
            rw [hnext]
            have e1 : 19 + 5 * n + (bs tickLn).size = 19 + 5 * (n + 1) := by show 19 + 5 * n + 5 = _; omega
            have e2 : (headLn ++ ticks n).map byteVal ++ Lib.strCells (bs tickLn) = (headLn ++ ticks (n + 1)).map byteVal := by
              rw [ticks_succ, ← List.append_assoc, List.map_append (l₂ := tickLn)]; rfl
            have hr : Row w9 5 1 q2 (19 + 5 * n + (bs tickLn).size) c2 ((headLn ++ ticks n).map byteVal ++ Lib.strCells (bs tickLn)) := hrow2
            rw [e1, e2] at hr
            show L2 [.slice q2 (19 + 5 * n + (bs tickLn).size) c2, _] w9
            rw [e1]
            refine ihm (n + 1) q2 c2 w9 (by omega) hr (fun x hx => ?_) (Ext.upd hx8 hu9 (fun j hj => hlo j hj))
            rcases hfr9 x hx with hq | hq
            · exact hlo x hq
            · have := hx8.size; omega
          | zero =>
            intro n q c w8 hnm hrow hlo hx8
            obtain rfl : n = 4096 := by omega
            refine hL2 _ _ _ _ _ fun _ => if_f (by rw [iLt_f]; omega) ?_
            have hlT : (headLn ++ ticks 4096).length = 20499 := by rw [List.length_append, ticks_len]; rfl
            refine conv_str (l := headLn ++ ticks 4096) Go.Proofs.Tryz.underlying39 Go.Proofs.Tryz.underlying5 Go.Proofs.Tryz.underlying9 (by rw [hlT]) hrow.cells ?_
            have hw8 := hw.ext hx8
            obtain ⟨T, hT⟩ : ∃ T, headLn ++ ticks 4096 = T := ⟨_, rfl⟩
            have hTl : T.length = 20499 := by rw [← hT]; exact hlT
            have hpt := many_parse
            have hpm := many_more hn10 hsk (by rw [← hsl]; exact hlen) 
            rw [hT] at hpt hpm ⊢
            refine parseR_el hw8 (by rw [size_len]; show T.length < _; omega) hpt (fun oq ol oc sq sl sc w12 hp => ?_)
            refine al_el fun k2 w13 hk2 hb2 hx13 hs13 => ?_
            refine st_el hb2 (by simp) fun w14 h14 hu14 hs14 => ?_
            have hx14 : Ext w12 w14 := Ext.upd hx13 hu14 (fun i hi => by omega)
            intro K3 hK3
            refine if_f rfl ?_
            refine hK3 _ _ fun _ => ?_
            intro K4 hK4
            refine if_f rfl ?_
            have e4 : iNe (lenN sl) 4096 = false := by rw [iNe_f, lenN_el, hp.nsteps]; show ((manySteps.length : Nat) : Int) = _; rw [many_len]; rfl
            rw [e4]
            refine hK4 _ _ fun _ => ?_
            refine if_f rfl ?_
            have hx8_14 : Ext w8 w14 := hp.ext.trans hx14
            refine conv_str (l := T) Go.Proofs.Tryz.underlying39 Go.Proofs.Tryz.underlying5 Go.Proofs.Tryz.underlying9 (by rw [hTl]) ?_ ?_
            · rw [← hT]; exact hrow.cells.ext hx8_14
            have cok : ∀ a b : ByteArray, a.size + b.size < 100000 → catOk a b := fun a b hab => by unfold catOk; omega
            have sT : (⟨T.toArray⟩ : ByteArray).size = 20499 := by rw [size_len]; exact hTl
            have s10 : (bs [10]).size = 1 := rfl
            have sc1 : (cat (⟨T.toArray⟩ : ByteArray) (bs [10])).size = 20500 := by unfold cat; rw [ByteArray.size_append, sT, s10]
            have sc2 : (cat (cat (⟨T.toArray⟩ : ByteArray) (bs [10])) s).size = 20500 + s.size := by unfold cat at sc1 ⊢; rw [ByteArray.size_append, sc1]
            refine ⟨cok _ _ (by rw [sT, s10]; decide), cok _ _ (by rw [sc1]; omega), cok _ _ (by rw [sc2, s10]; omega), ?_⟩
            have ecat : (cat (cat (cat (⟨T.toArray⟩ : ByteArray) (bs [10])) s) (bs [10])).data.toList = T ++ [10] ++ s.data.toList ++ [10] := by
              unfold cat
              simp only [ByteArray.data_append, Array.toList_append]
              rfl
            have hw14 := hw8.ext hx8_14
            have sc3 : (cat (cat (cat (⟨T.toArray⟩ : ByteArray) (bs [10])) s) (bs [10])).size = 20500 + s.size + 1 := by unfold cat at sc2 ⊢; rw [ByteArray.size_append, sc2, s10]
            refine parseR_el (R := ⟨zeroPlan, [], 4099, 212⟩) hw14 (by rw [sc3]; omega) (by rw [ecat]; exact hpm) (fun oq2 ol2 oc2 sq2 sl2 sc2' w18 hp2 => ?_)
            refine al_el fun k3 w19 hk3 hb3 hx19 hs19 => ?_
            refine st_el hb3 (by simp) fun w20 h20 hu20 hs20 => ?_
            have hx20 : Ext w18 w20 := Ext.upd hx19 hu20 (fun i hi => by omega)
            intro K5 hK5
            refine if_f rfl ?_
            refine hK5 _ _ fun _ => ?_
            intro K6 hK6
            refine if_f rfl ?_
            have e6 : iNe (lenN sl2) 0 = false := by rw [iNe_f, lenN_el, hp2.nsteps]; rfl
            rw [e6]
            refine hK6 _ _ fun _ => ?_
            refine if_f rfl ?_
            -- one step more is refused
            refine al_el fun k4 w23 hk4 hb4 hx23 hs23 => ?_
            have hx12_23 : Ext w12 w23 := ((hx14.trans hp2.ext).trans hx20).trans hx23
            obtain ⟨inf2, hi2, hsize2, hby2, hz2⟩ := info_of (P := P) (e := 46) (size := 5) (bytes := 40) (z := .agg #[.int .i64 0, .int .i64 0, .int .i64 0, .int .u64 0, .float .f64 0]) (by kernel_rfl) (by kernel_rfl)
            have hnews : Cells w23 (some ⟨k4, 0, none⟩) wt1.cells := .inr ⟨_, rfl, rfl, fun j hj => by
              rw [add_pl]; refine cell_blk hb4 ?_
              rw [Nat.zero_add, ← Array.getElem?_toList]; exact List.getElem?_eq_getElem hj⟩
            have hsl4 : sl = 4096 := by rw [hp.nsteps]; exact many_len
            refine append_row (size := 5) (bytes := 40) Go.Proofs.Tryz.underlying25 hi2 hz2 hsize2 hby2 rfl (by decide) (hp.steps.ext hx12_23) (m := 1) rfl hnews (by intro u hu; simp only [St.cells, List.mem_cons, List.not_mem_nil, or_false] at hu; rcases hu with rfl | rfl | rfl | rfl | rfl <;> rfl) (by decide) (by unfold maxLen; omega) (by omega) fun q8 c8 w25 hrow8 hu25 hfr25 => ?_
            have hx25 : Ext w w25 := by
              refine Ext.upd ((hx8.trans hp.ext).trans hx12_23) hu25 (fun j hj => ?_)
              have := hp.news j hj
              have := hx8.size
              omega
            simp only [asL_at]
            have hst8 : Cells w25 q8 (stepsCells (manySteps ++ [wt1])) := by
              have e : stepsCells (manySteps ++ [wt1]) = stepsCells manySteps ++ wt1.cells := by simp [stepsCells]
              rw [e]; exact hrow8.cells
            refine print_el (p := ⟨over, 0, 0, [], 0, 0, 0, 0⟩) (steps := manySteps ++ [wt1]) (oq := none) (ol := 0) (oc := 0) (hw.ext hx25) ⟨fun n hn => ?_, fun o ho => by cases ho⟩ (.inl rfl) rfl hst8 (by rw [hsl4, List.length_append, many_len]; rfl) (fun t ht => ?_) (by show (0 : Nat) < _; omega) (by rw [List.length_append, many_len]; show (4097 : Nat) < _; omega) (fun w26 hx26 => ?_)
            · simp only [PlanR.nums, List.mem_cons, List.not_mem_nil, or_false] at hn
              rcases hn with rfl | rfl | rfl | rfl | rfl | rfl | rfl
              · exact ho
              all_goals omega
            · rw [List.mem_append, List.mem_singleton] at ht
              rcases ht with ht | rfl
              · exact (many_ok t ht).2.2.2
              · exact (wt_ok wt1 (by simp)).2.2.2
            rw [many_print]
            intro K7 hK7
            refine if_t (by rw [sEq_t]) ?_
            refine hK7 _ _ fun _ => ?_
            exact h w26 (hx25.trans hx26)
        refine hL2 _ _ _ _ _ fun _ => if_t rfl ?_
        refine append_str_grow Go.Proofs.Tryz.underlying39 Go.Proofs.Tryz.underlying9 hi' hz hsize hby (n := 19) (c := 19) rfl hcells0 (s := bs tickLn) (by decide) (by decide) (by decide) fun q2 c2 w9 hrow2 hx9 hfr9 => ?_
        have e2 : headLn.map byteVal ++ Lib.strCells (bs tickLn) = (headLn ++ ticks 1).map byteVal := rfl
        rw [e2] at hrow2
        refine loop 4095 1 q2 c2 w9 (by omega) hrow2 (fun x hx => ?_) ((hx5.trans hx7).trans hx9)
        have := hfr9 x hx
        have := hx5.size
        have := hx7.size
        omega
      have stop : K1 [.bool true] w2 := hK1 _ _ fun _ => by
        intro K2 hK2
        exact if_t rfl (hK2 _ _ fun _ => if_t rfl (h w2 hx2))
      refine cnd_i (fun hg => stop) (fun hg => ?_)
      rw [sEq_f] at hg
      cases hc : s.data.toList with
      | nil =>
        exfalso; apply hg; symm
        rw [bs, mk_data, hc]
      | cons c t =>
        have hc0 : s.data.toList[0]? = some c := by rw [hc]; rfl
        refine ⟨by unfold inB; rw [hsl, hc]; simp, ?_⟩
        have hb : bt s 0 = (c.toNat : Int) := bt_at (i := 0) hc0
        rw [hb]
        by_cases h35 : c = 35
        · have : iEq ((c.toNat : Nat) : Int) 35 = true := by rw [iEq_t, h35]; rfl
          rw [this]; exact stop
        · have : iEq ((c.toNat : Nat) : Int) 35 = false := by
            rw [iEq_f]; intro hq; apply h35; apply UInt8.toNat_inj.1; show c.toNat = 35; omega
          rw [this]
          by_cases hlen : s.size ≤ 1000
          · exact goon (by rw [hc]; simp [skipL, h35]) hlen w2 hx2
          · refine hK1 _ _ fun _ => ?_
            intro K2 hK2
            refine if_f rfl ?_
            rw [show iGt (lenN (ByteArray.size s)) 1000 = true from by rw [iGt_t, lenN_el]; omega]
            exact hK2 _ _ fun _ => if_t rfl (h w2 hx2)
  exact go s.size 0 w1 (by omega) hx1 (fun j hj => by omega)
end Go.Proofs.YtgfbkmclekafbaaGreatDoor
