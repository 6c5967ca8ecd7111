/- ScriptForth: true. -/
import Derived.Test.YtgfbkmclekafbaaGreatDoorQConD
import Derived.Test.YtgfbkmclekafbaaGreatDoorQRd4
import Derived.Test.YtgfbkmclekafbaaGreatDoorQRd5
set_option linter.unusedVariables false
set_option linter.unusedSimpArgs false
set_option linter.unnecessarySimpa false
set_option maxRecDepth 100000
namespace Go.Proofs.YtgfbkmclekafbaaGreatDoor
open Go Go.Vc

theorem forth_el {s : ByteArray} {w : World} {K : Value → World → Prop} {X : List PanicEntry → World → Prop} (hw : Lw w) (hs : s.size < 4294967181) (h : ∀ w', Ext w w' → K (.bool true) w') :
    call P n_repriselaw21_ScriptForth [.string s] w K X := by
  refine repriselaw21_ScriptForth.call ?_
  unfold repriselaw21_ScriptForth.F
  refine awake_el hw (fun w1 hx1 => ?_)
  simp only [asB_at]
  refine if_f rfl ?_
  obtain ⟨R, hR⟩ : ∃ R, parseText s.data.toList = R := ⟨_, rfl⟩
  refine parseR_el (hw.ext hx1) hs hR (fun oq ol oc sq sl sc w2 hp => ?_)
  have hno := forth_no (l := s.data.toList)
  have hyes := forth_ok (l := s.data.toList)
  rw [hR] at hno hyes
  refine al_el fun k1 w3 hk1 hb1 hx3 hs3 => ?_
  refine st_el hb1 (by simp) fun w4 h4 hu4 hs4 => ?_
  have hx4 : Ext w2 w4 := Ext.upd hx3 hu4 (fun i hi => by omega)
  have h4' : w4.heap[k1]? = some (.cells (R.p.cells oq ol oc).toArray 24 (0, 0)) := h4
  have hw4 : Ext w w4 := (hx1.trans hp.ext).trans hx4
  have hop := hp.cellsO.ext hx4
  have hst := hp.cellsS.ext hx4
  refine cnd_i (fun hg => ?_) (fun hg => ?_)
  · rw [iNe_t] at hg
    obtain ⟨g1, g2, g3, g4⟩ := hno hg
    refine ld_blk h4' (v := .int .i64 R.p.p0) rfl ?_
    refine ld_blk h4' (v := .int .i64 R.p.p1) rfl ?_
    refine ld_blk h4' (v := .int .i64 R.p.p2) rfl ?_
    refine ld_blk h4' (v := .slice oq ol oc) rfl ?_
    refine ld_blk h4' (v := .int .i64 R.p.p4) rfl ?_
    refine ld_blk h4' (v := .int .i64 R.p.p5) rfl ?_
    refine ld_blk h4' (v := .int .i64 R.p.p6) rfl ?_
    refine ld_blk h4' (v := .int .i64 R.p.p7) rfl ?_
    refine plans_el (p := R.p) (r := zeroPlan) (oq' := none) (ol' := 0) (oc' := 0) hop (.inl rfl) hp.nops rfl (by rw [g1]; decide) (fun b w5 hb hx5 => ?_)
    obtain rfl : b = true := hb.2 g1
    intro K1 hK1
    refine if_t rfl ?_
    have e1 : iEq (lenN sl) 0 = true := by rw [iEq_t, lenN_el, hp.nsteps, g2]; rfl
    rw [e1]
    refine hK1 _ _ fun _ => ?_
    intro K2 hK2
    refine if_t rfl ?_
    have e2 : iGe (R.at_ : Int) 0 = true := by rw [iGe_t]; omega
    rw [e2]
    refine hK2 _ _ fun _ => ?_
    intro K3 hK3
    refine if_t rfl ?_
    have e3 : (iEq (R.at_ : Int) 0 == iEq R.e 6) = true := by
      rw [beq_iff_eq, Bool.eq_iff_iff, iEq_t, iEq_t, ← g3]; omega
    rw [e3]
    refine hK3 _ _ fun _ => ?_
    intro K4 hK4
    refine if_t rfl ?_
    have e4 : (iEq R.e 6 == iGt (lenN (ByteArray.size s)) 262144) = true := by
      rw [beq_iff_eq, Bool.eq_iff_iff, iEq_t, iGt_t, lenN_el, g4, size_len]; omega
    rw [e4]
    refine hK4 _ _ fun _ => ?_
    exact h w5 (hw4.trans hx5)
  · rw [iNe_f] at hg
    obtain ⟨g1, g2, g3, g4, g5⟩ := hyes hg
    refine ld_blk h4' (v := .int .i64 R.p.p0) rfl ?_
    refine ld_blk h4' (v := .int .i64 R.p.p1) rfl ?_
    refine ld_blk h4' (v := .int .i64 R.p.p2) rfl ?_
    refine ld_blk h4' (v := .slice oq ol oc) rfl ?_
    refine ld_blk h4' (v := .int .i64 R.p.p4) rfl ?_
    refine ld_blk h4' (v := .int .i64 R.p.p5) rfl ?_
    refine ld_blk h4' (v := .int .i64 R.p.p6) rfl ?_
    refine ld_blk h4' (v := .int .i64 R.p.p7) rfl ?_
    have hol : R.p.ops.length < 4294967296 := by
      have h1 := hp.ops.le
      have h2 : (ends (linesP R.p R.steps)).length = (bareF [] [] s.data.toList).length := by rw [g5]
      have h3 : ∀ ls : List (List UInt8), ls.length ≤ (ends ls).length := by
        intro ls
        induction ls with
        | nil => simp
        | cons x t ih => rw [ends_cons]; simp only [List.length_cons, List.length_append]; omega
      have h4 := h3 (linesP R.p R.steps)
      have h5 : ∀ (l cur : List UInt8), (ends (kept (cutAt 10 cur l))).length ≤ cur.length + l.length + 1 := by
        intro l
        induction l with
        | nil => intro cur; rw [cutAt]; by_cases hk : skipL cur = true <;> simp [kept, hk, ends]
        | cons x t ih =>
          intro cur
          rw [cutAt]
          split
          · have := ih []
            by_cases hk : skipL cur = true <;> simp [kept, hk, ends] at this ⊢ <;> omega
          · have := ih (cur ++ [x])
            simp only [List.length_append, List.length_cons, List.length_nil] at this ⊢; omega
      have h6 := h5 s.data.toList []
      rw [bare_eq] at h2
      simp only [List.nil_append, List.length_nil, Nat.zero_add] at h2 h6
      have h7 := size_len s
      have h8 : (linesP R.p R.steps).length = 1 + (R.p.ops.length + R.steps.length) := by simp [linesP]; omega
      omega
    refine print_el (p := R.p) (steps := R.steps) ((hw.ext hw4)) g2 hop hp.nops hst hp.nsteps (fun t ht => (g3 t ht).2.2.2) (by omega) (by omega) (fun w5 hx5 => ?_)
    rw [print_ok g4 (fun t ht => ⟨(g3 t ht).1, (g3 t ht).2.1, (g3 t ht).2.2.1⟩), g5]
    obtain ⟨want, hwant⟩ : ∃ want, bareF [] [] s.data.toList = want := ⟨_, rfl⟩
    rw [hwant]
    have hfin : Ext w w5 := hw4.trans hx5
    by_cases hbig : 262144 < want.length
    · rw [if_pos hbig]
      refine bare_el (by omega) (fun w6 hx6 => ?_)
      rw [hwant]
      refine if_t (by rw [iGt_t, lenN_el, size_len]; show (262144 : Int) < ((want.length : Nat) : Int); omega) ?_
      intro K5 hK5
      refine if_t rfl ?_
      refine hK5 _ _ fun _ => ?_
      have hse : sEq (bs []) (bs []) = true := by rw [sEq_t]
      show K (.bool (sEq (bs []) (bs []))) w6
      rw [hse]
      exact h w6 (hfin.trans hx6)
    · rw [if_neg hbig]
      refine bare_el (by omega) (fun w6 hx6 => ?_)
      rw [hwant]
      refine if_f (by rw [iGt_f, lenN_el, size_len]; show ((want.length : Nat) : Int) ≤ 262144; omega) ?_
      intro K6 hK6
      refine if_t (by rw [iEq_t, g1]; rfl) ?_
      refine hK6 _ _ fun _ => ?_
      intro K7 hK7
      refine if_t rfl ?_
      have hse : sEq (⟨want.toArray⟩ : ByteArray) ⟨want.toArray⟩ = true := by rw [sEq_t]
      show K7 [.bool (sEq (⟨want.toArray⟩ : ByteArray) ⟨want.toArray⟩)] w6
      rw [hse]
      refine hK7 _ _ fun _ => ?_
      exact h w6 (hfin.trans hx6)
end Go.Proofs.YtgfbkmclekafbaaGreatDoor

/- ScriptMany: true. -/
set_option maxRecDepth 100000
namespace Go.Proofs.YtgfbkmclekafbaaGreatDoor
open Go Go.Vc

def tickLn : List UInt8 := [116, 105, 99, 107, 10]
def headLn : List UInt8 := [112, 108, 97, 110, 32, 49, 32, 49, 32, 49, 32, 50, 32, 52, 32, 50, 32, 56, 10]
def ticks (n : Nat) : List UInt8 := (List.replicate n tickLn).flatten
theorem ticks_len (n : Nat) : (ticks n).length = 5 * n := by
  induction n with
  | zero => rfl
  | succ n ih => rw [ticks, List.replicate_succ, List.flatten_cons, List.length_append]; rw [ticks] at ih; rw [ih]; simp [tickLn]; omega
theorem ticks_succ (n : Nat) : ticks (n + 1) = ticks n ++ tickLn := by
  rw [ticks, List.replicate_succ', List.flatten_append]; simp [ticks]
def manySteps : List St := List.replicate 4096 wt1
theorem many_ends : headLn ++ ticks 4096 = ends (linesP wp0 manySteps) := by
  have h1 : ends (manySteps.map stepLine) = ticks 4096 := by
    rw [manySteps, List.map_replicate, ends, List.map_replicate, wt1_line]; rfl
  unfold linesP
  rw [show wp0.ops = [] from rfl, List.map_nil, List.nil_append, ends_cons, h1, wp0_line]; rfl
theorem many_ok : ∀ t ∈ manySteps, StOk t := by
  intro t ht
  rw [manySteps, List.mem_replicate] at ht
  rw [ht.2]; exact wt_ok wt1 (by simp)
theorem many_len : manySteps.length = 4096 := by rw [manySteps, List.length_replicate]
theorem wp0_wf : wp0.wf := ⟨fun n hn => wp1_wf.nums n hn, fun o ho => by cases ho⟩
theorem many_parse : parseText (headLn ++ ticks 4096) = ⟨wp0, manySteps, 0, 0⟩ := by
  refine parse_print wp0_wf (fun t ht => (many_ok t ht).2.2.2) ?_
  rw [print_ok (by rw [many_len]; exact Nat.le_refl _) (fun t ht => ⟨(many_ok t ht).1, (many_ok t ht).2.1, (many_ok t ht).2.2.1⟩), ← many_ends, if_neg]
  rw [List.length_append, ticks_len]; decide
theorem many_more {x : List UInt8} (hx : (10 : UInt8) ∉ x) (hs : skipL x = false) (hl : x.length ≤ 1000) : parseText (headLn ++ ticks 4096 ++ [10] ++ x ++ [10]) = ⟨zeroPlan, [], 4099, 212⟩ := by
  have hrun := run_lines (p := wp0) (steps := manySteps) wp0_wf (by rw [many_len]; exact Nat.le_refl _) many_ok
  have hcut : cutAt 10 [] (headLn ++ ticks 4096 ++ [10] ++ x ++ [10]) = linesP wp0 manySteps ++ [[], x, []] := by
    rw [many_ends, List.append_assoc, List.append_assoc, cut_ends _ _ (linesP_no10 _ _)]
    congr 1
    rw [List.singleton_append, cutAt, if_pos rfl, cutAt_at x [] [] hx]; simp [cutAt]
  have hlen : (linesP wp0 manySteps).length = 4097 := by simp [linesP, many_len, wp0]
  unfold parseText
  rw [if_neg (by simp only [List.length_append, ticks_len, List.length_cons, List.length_nil, headLn]; omega), hcut, parseL_run _ _ _ _ hrun, hlen]
  have h0 : stepL ⟨wp0, manySteps, true⟩ [] = .ok ⟨wp0, manySteps, true⟩ := rfl
  have h1 : stepL ⟨wp0, manySteps, true⟩ x = .error 212 := by
    unfold stepL
    rw [if_neg (by rw [hs]; decide)]
    obtain ⟨w, args, hb, _⟩ := line_blanks x
    rw [hb]
    unfold lineSpec
    simp only [List.map_cons]
    rw [if_neg (by decide), if_neg, if_neg]
    · rw [many_len]; decide
    · rintro ⟨_, h⟩
      have := many_len
      rw [h] at this; cases this
  rw [parseL, h0]
  simp only
  rw [parseL, h1]

theorem many_print {p : PlanR} : printSpec p (manySteps ++ [wt1]) = .error 212 := by
  unfold printSpec
  rw [if_pos (by rw [List.length_append, many_len]; decide)]
end Go.Proofs.YtgfbkmclekafbaaGreatDoor

/- ScriptBack: true. -/
set_option maxRecDepth 100000
namespace Go.Proofs.YtgfbkmclekafbaaGreatDoor
open Go Go.Vc

/-- a plan and steps, as arguments -/
structure PS (w : World) (p : PlanR) (oq : Option Addr) (ol oc : Nat) (steps : List St) (sq : Option Addr) (sl sc : Nat) : Prop where
  wf : p.wf
  ops : Cells w oq (opsCells p.ops)
  nops : ol = p.ops.length
  ole : ol ≤ oc
  omax : oc ≤ 9223372036854775807
  sts : Cells w sq (stepsCells steps)
  nsts : sl = steps.length
  swf : ∀ t ∈ steps, t.wf
  sle : sl ≤ sc
  smax : sc ≤ 9223372036854775807

theorem ld_plan {w : World} {k : Nat} {p : PlanR} {oq : Option Addr} {ol oc : Nat} {K : Int → Int → Int → Option Addr → Nat → Nat → Int → Int → Int → Int → Prop} (h : w.heap[k]? = some (.cells (p.cells oq ol oc).toArray 24 (0, 0)))
    (hK : K p.p0 p.p1 p.p2 oq ol oc p.p4 p.p5 p.p6 p.p7) :
    ld w (⟨k, 0, none⟩ : Addr) fun v0 => asI .i64 v0 fun n0 => ld w (⟨k, 1, none⟩ : Addr) fun v1 => asI .i64 v1 fun n1 => ld w (⟨k, 2, none⟩ : Addr) fun v2 => asI .i64 v2 fun n2 => ld w (⟨k, 3, none⟩ : Addr) fun v3 => asL v3 fun q l c =>
    ld w (⟨k, 4, none⟩ : Addr) fun v4 => asI .i64 v4 fun n4 => ld w (⟨k, 5, none⟩ : Addr) fun v5 => asI .i64 v5 fun n5 => ld w (⟨k, 6, none⟩ : Addr) fun v6 => asI .i64 v6 fun n6 => ld w (⟨k, 7, none⟩ : Addr) fun v7 => asI .i64 v7 fun n7 =>
    K n0 n1 n2 q l c n4 n5 n6 n7 := by
  refine ld_blk h (v := .int .i64 p.p0) rfl ?_
  refine ld_blk h (v := .int .i64 p.p1) rfl ?_
  refine ld_blk h (v := .int .i64 p.p2) rfl ?_
  refine ld_blk h (v := .slice oq ol oc) rfl ?_
  refine ld_blk h (v := .int .i64 p.p4) rfl ?_
  refine ld_blk h (v := .int .i64 p.p5) rfl ?_
  refine ld_blk h (v := .int .i64 p.p6) rfl ?_
  refine ld_blk h (v := .int .i64 p.p7) rfl ?_
  exact hK

/-- what is cut behind a line is the script of fewer steps -/
theorem print_pre {p : PlanR} {steps : List St} {u : List UInt8} (h : printSpec p steps = .ok u) (k : Nat) : ∃ v r, printSpec p (steps.take k) = .ok v ∧ u = v ++ r := by
  obtain ⟨h1, h2, rfl, h4⟩ := print_some h
  have e : ends (linesP p steps) = ends (linesP p (steps.take k)) ++ ends ((steps.drop k).map stepLine) := by
    rw [← ends_append]
    congr 1
    simp only [linesP, List.cons_append, List.append_assoc, ← List.map_append, List.take_append_drop]
  refine ⟨ends (linesP p (steps.take k)), _, ?_, e⟩
  rw [print_ok (by rw [List.length_take]; omega) (fun t ht => h2 t (List.mem_of_mem_take ht)), if_neg]
  rw [e, List.length_append] at h4
  omega

theorem take_cells {w : World} {q : Option Addr} {steps : List St} (h : Cells w q (stepsCells steps)) (k : Nat) : Cells w q (stepsCells (steps.take k)) := by
  have e : stepsCells steps = stepsCells (steps.take k) ++ stepsCells (steps.drop k) := by
    unfold stepsCells
    rw [← List.flatten_append, ← List.map_append, List.take_append_drop]
  rcases h with h | ⟨d, h1, h2, h3⟩
  · left; rw [e] at h; exact (List.append_eq_nil_iff.1 h).1
  · refine .inr ⟨d, h1, h2, fun i hi => ?_⟩
    have hi' : i < (stepsCells steps).length := by rw [e, List.length_append]; omega
    rw [h3 i hi']
    simp only [e, List.getElem_append_left hi]

theorem back_el {p : PlanR} {oq : Option Addr} {ol oc : Nat} {steps : List St} {sq : Option Addr} {sl sc : Nat} {cut : Int} {w : World} {K : Value → World → Prop} {X : List PanicEntry → World → Prop} (hw : Lw w) (hp : PS w p oq ol oc steps sq sl sc)
    (h : ∀ w', Ext w w' → K (.bool true) w') : call P n_repriselaw21_ScriptBack [.agg (p.cells oq ol oc).toArray, .slice sq sl sc, .int .i64 cut] w K X := by
  refine repriselaw21_ScriptBack.call ?_
  unfold repriselaw21_ScriptBack.F
  refine al_el fun k1 w1 hk1 hb1 hx1 hs1 => ?_
  refine awake_el (hw.ext hx1) (fun w2 hx2 => ?_)
  simp only [asB_at]
  refine if_f rfl ?_
  have hb2 : w2.heap[k1]? = some (.cells (p.cells oq ol oc).toArray 24 (0, 0)) := hx2.blk hb1 (fun h => h)
  have hw2 : Ext w w2 := hx1.trans hx2
  refine cnd_i (fun hg => h _ hw2) (fun hg => ?_)
  rw [iGt_f, lenN_el] at hg
  have hle : steps.length ≤ 300 := by rw [← hp.nsts]; omega
  refine ld_plan hb2 ?_
  have hol : p.ops.length ≤ 9223372036854775807 := by rw [← hp.nops]; exact Nat.le_trans hp.ole hp.omax
  refine print_el (p := p) (steps := steps) (hw.ext hw2) hp.wf (hp.ops.ext hw2) hp.nops (hp.sts.ext hw2) hp.nsts hp.swf hol (by omega) (fun w3 hx3 => ?_)
  have hw3 : Ext w w3 := hw2.trans hx3
  cases hpr : printSpec p steps with
  | error e =>
    have he := print_err hpr
    have hne : e ≠ 0 := by omega
    show cnd (iNe e 0) _ _
    refine if_t (by rw [iNe_t]; exact hne) ?_
    intro K1 hK1
    refine if_t (by rw [sEq_t]) ?_
    intro K2 hK2
    have fin : K2 [.bool true] w3 := by
      refine hK2 _ _ fun _ => ?_
      intro K3 hK3
      refine if_t rfl ?_
      exact hK3 _ _ fun _ => hK1 _ _ fun _ => h w3 hw3
    refine cnd_i (fun _ => fin) (fun h1 => ?_)
    rw [iEq_f] at h1
    by_cases h2 : e = 1
    · rw [show iEq e 1 = true from by rw [iEq_t]; exact h2]; exact fin
    · rw [show iEq e 1 = false from by rw [iEq_f]; exact h2]
      refine hK2 _ _ fun _ => ?_
      intro K3 hK3
      refine if_f rfl ?_
      rw [show iEq e 6 = true from by rw [iEq_t]; omega]
      exact hK3 _ _ fun _ => hK1 _ _ fun _ => h w3 hw3
  | ok u =>
    obtain ⟨z, hz⟩ : ∃ z : Int, z = 0 := ⟨0, rfl⟩
    rw [show printV (.ok u) = .tuple #[.string ⟨u.toArray⟩, .int .i64 z] from by rw [hz]; rfl]
    show cnd (iNe z 0) _ _
    refine if_f (by rw [iNe_f]; exact hz) ?_
    obtain ⟨g1, g2, g3, g4⟩ := print_some hpr
    have hpp := parse_print hp.wf hp.swf hpr
    have hu : (⟨u.toArray⟩ : ByteArray).size = u.length := by rw [size_len]
    refine parseR_el (R := ⟨p, steps, 0, 0⟩) (hw.ext hw3) (by rw [hu]; omega) hpp (fun oq' ol' oc' sq' sl' sc' w4 hr => ?_)
    refine al_el fun k2 w5 hk2 hb5 hx5 hs5 => ?_
    refine st_el hb5 (by simp) fun w6 h6 hu6 hs6 => ?_
    have hx6 : Ext w4 w6 := Ext.upd hx5 hu6 (fun i hi => by omega)
    have h6' : w6.heap[k2]? = some (.cells (p.cells oq' ol' oc').toArray 24 (0, 0)) := h6
    have hw6 : Ext w w6 := (hw3.trans hr.ext).trans hx6
    have hb6 : w6.heap[k1]? = some (.cells (p.cells oq ol oc).toArray 24 (0, 0)) := ((hx3.trans hr.ext).trans hx6).blk hb2 (fun h => h)
    intro K4 hK4
    refine if_f rfl ?_
    refine hK4 _ _ fun _ => ?_
    intro K5 hK5
    refine if_f rfl ?_
    refine ld_plan hb6 ?_
    refine ld_plan h6' ?_
    refine plans_el (p := p) (r := p) (hp.ops.ext hw6) (hr.cellsO.ext hx6) hp.nops hr.nops (by
      have : p.ops.length ≤ (ends (linesP p steps)).length := by
        have h3 : ∀ ls : List (List UInt8), ls.length ≤ (ends ls).length := by
          intro ls
          induction ls with
          | nil => simp
          | cons x t ih => rw [ends_cons]; simp only [List.length_cons, List.length_append]; omega
        have := h3 (linesP p steps)
        simp only [linesP, List.length_cons, List.length_append, List.length_map] at this ⊢
        omega
      rw [← g3] at this
      omega) (fun b w7 hb hx7 => ?_)
    obtain rfl : b = true := hb.2 rfl
    have hw7 : Ext w w7 := hw6.trans hx7
    refine hK5 _ _ fun _ => ?_
    intro K6 hK6
    refine if_f rfl ?_
    refine same_el (l := steps) (m := steps) (hr.cellsS.ext (hx6.trans hx7)) (hp.sts.ext hw7) hr.nsteps hp.nsts (by omega) (fun b w8 hb hx8 => ?_)
    obtain rfl : b = true := hb.2 rfl
    have hw8 : Ext w w8 := hw7.trans hx8
    refine hK6 _ _ fun _ => ?_
    refine if_f rfl ?_
    have e1 : IntKind.wrap .u64 (iAdd .i64 (lenN sl) 1) = ((steps.length + 1 : Nat) : Int) := by
      rw [lenN_el, hp.nsts, iAdd_i64 (by omega) (by omega), wrap_u64 (by omega) (by omega)]; omega
    rw [e1]
    refine ⟨by unfold nz; omega, fun w9 hw9 => ?_⟩
    subst hw9
    have hb9 : w8.drew.heap[k1]? = some (.cells (p.cells oq ol oc).toArray 24 (0, 0)) := (hx7.trans hx8).blk hb6 (fun h => h)
    have hw9 : Ext w w8.drew := hw8.trans Upd.drew
    refine ld_plan hb9 ?_
    obtain ⟨k, hk, hkl⟩ : ∃ k : Nat, IntKind.wrap .i64 (iRem (IntKind.wrap .u64 cut) ((steps.length + 1 : Nat) : Int)) = (k : Int) ∧ k ≤ steps.length := by
      have h0 : 0 ≤ IntKind.wrap .u64 cut := by rw [IntKind.wrap_u64]; omega
      obtain ⟨m, hm⟩ := Int.eq_ofNat_of_zero_le h0
      refine ⟨m % (steps.length + 1), ?_, by have := Nat.mod_lt m (show steps.length + 1 > 0 by omega); omega⟩
      rw [hm]
      unfold iRem
      have e : Int.tmod (m : Int) ((steps.length + 1 : Nat) : Int) = ((m % (steps.length + 1) : Nat) : Int) := (Int.ofNat_tmod m (steps.length + 1)).symm
      rw [e]
      have := Nat.mod_lt m (show steps.length + 1 > 0 by omega)
      rw [IntKind.wrap_i64]; omega
    rw [hk]
    have hsl := hp.sle
    refine ⟨⟨by omega, by rw [hp.nsts] at hsl; omega⟩, ?_⟩
    obtain ⟨v, r, hv, huv⟩ := print_pre hpr k
    have ek : (steps.take k).length = k := by rw [List.length_take]; omega
    refine print_el (p := p) (steps := steps.take k) (sl := k) (sc := sc) (hw.ext hw9) hp.wf (hp.ops.ext hw9) hp.nops (take_cells (hp.sts.ext hw9) k) ek.symm (fun t ht => hp.swf t (List.mem_of_mem_take ht)) hol (by omega) (fun w10 hx10 => ?_)
    rw [hv]
    have hw10 : Ext w w10 := hw9.trans hx10
    intro K7 hK7
    refine if_t rfl ?_
    have hvs : (⟨v.toArray⟩ : ByteArray).size = v.length := by rw [size_len]
    have hul : v.length ≤ u.length := by rw [huv, List.length_append]; omega
    have e2 : iLe (lenN (ByteArray.size ⟨v.toArray⟩)) (lenN (ByteArray.size ⟨u.toArray⟩)) = true := by rw [iLe_t, lenN_el, lenN_el, hvs, hu]; omega
    show K7 [.bool (iLe (lenN (ByteArray.size ⟨v.toArray⟩)) (lenN (ByteArray.size ⟨u.toArray⟩)))] w10
    rw [e2]
    refine hK7 _ _ fun _ => ?_
    intro K8 hK8
    refine if_t rfl ?_
    have e3 : lenN (ByteArray.size ⟨v.toArray⟩) = ((v.length : Nat) : Int) := by rw [lenN_el, hvs]
    show inC (lenN (ByteArray.size ⟨v.toArray⟩)) (ByteArray.size ⟨u.toArray⟩) ∧ K8 [.bool (sEq (cutS ⟨u.toArray⟩ 0 (Int.toNat (lenN (ByteArray.size ⟨v.toArray⟩)))) ⟨v.toArray⟩)] w10
    refine ⟨⟨by rw [e3]; omega, by rw [e3, hu]; omega⟩, ?_⟩
    have e4 : sEq (cutS ⟨u.toArray⟩ 0 (Int.toNat (lenN (ByteArray.size ⟨v.toArray⟩)))) ⟨v.toArray⟩ = true := by
      rw [sEq_t, e3]
      apply ByteArray.ext
      apply Array.ext'
      simp only [cutS, ByteArray.data_extract, Array.toList_extract, Int.toNat_natCast]
      rw [huv]
      simp [List.extract]
    rw [e4]
    exact hK8 _ _ fun _ => h w10 hw10
end Go.Proofs.YtgfbkmclekafbaaGreatDoor

/- ScriptMemory: true. -/
set_option maxRecDepth 100000
namespace Go.Proofs.YtgfbkmclekafbaaGreatDoor
open Go Go.Vc

theorem ops_one (l : List OpR) : ∀ u ∈ opsCells l, u.oneCell' = true := by
  intro u hu
  simp only [opsCells, List.mem_flatten, List.mem_map] at hu
  obtain ⟨_, ⟨o, _, rfl⟩, hu⟩ := hu
  simp only [OpR.cells, List.mem_cons, List.not_mem_nil, or_false] at hu
  rcases hu with rfl | rfl | rfl <;> rfl
theorem steps_one (l : List St) : ∀ u ∈ stepsCells l, u.oneCell' = true := by
  intro u hu
  simp only [stepsCells, List.mem_flatten, List.mem_map] at hu
  obtain ⟨_, ⟨o, _, rfl⟩, hu⟩ := hu
  simp only [St.cells, List.mem_cons, List.not_mem_nil, or_false] at hu
  rcases hu with rfl | rfl | rfl | rfl | rfl <;> rfl
theorem Cells.left {w : World} {a : Option Addr} {xs ys : List Value} (h : Cells w a (xs ++ ys)) : Cells w a xs := by
  rcases h with h | ⟨d, h1, h2, h3⟩
  · exact .inl (List.append_eq_nil_iff.1 h).1
  · refine .inr ⟨d, h1, h2, fun i hi => ?_⟩
    rw [h3 i (by rw [List.length_append]; omega), List.getElem_append_left hi]
theorem row_some {w : World} {e : TypeId} {size : Nat} {a : Option Addr} {n c : Nat} {xs : List Value} (h : Row w e size a n c xs) (hn : 0 < n) : ∃ g, a = some ⟨g, 0, none⟩ := by
  rcases h.2 with ⟨he, h0⟩ | ⟨g, cap, cur, he, _⟩
  · omega
  · cases he; exact ⟨g, rfl⟩
theorem Upd.next {S S' : Nat → Prop} {w w' w'' : World} (h : Upd S w w') (h' : Upd S' w' w'') (hs : ∀ i, i < w.heap.size → S' i → S i) : Upd S w w'' :=
  ⟨h'.os.trans h.os, h'.tape.trans h.tape, h'.output.trans h.output, Nat.le_trans h.size h'.size, fun i hi hn => (h'.block i (Nat.lt_of_lt_of_le hi h.size) (fun hh => hn (hs i hi hh))).trans (h.block i hi hn)⟩
theorem news_blk {w : World} {k : Nat} {cs : List Value} {T : TypeId} (h : w.heap[k]? = some (.cells cs.toArray T (0, 0))) : Cells w (some ⟨k, 0, none⟩) cs := .inr ⟨_, rfl, rfl, fun j hj => by
  rw [add_pl]; refine cell_blk h ?_
  rw [Nat.zero_add, ← Array.getElem?_toList]; exact List.getElem?_eq_getElem hj⟩
def opS : List OpR := [⟨71, 0, 0⟩, ⟨72, 0, 0⟩]
def stS : List St := [⟨73, 0, 0, 0, 0⟩, ⟨74, 0, 0, 0, 0⟩]
/-- the kind of an element behind the others -/
theorem ld_kind {w : World} {q : Option Addr} {xs ys : List Value} {i : Nat} {v : Value} {K : Value → Prop} (h : Cells w q (xs ++ ys)) {j : Nat} (hj : ys[j]? = some v) (hi : i = xs.length + j) (hK : K v) : ∃ d, q = some d ∧ ld w (d.add i) K := by
  have hjl : j < ys.length := (List.getElem?_eq_some_iff.1 hj).1
  obtain ⟨d, hd, hc⟩ := h.at (i := i) (by rw [List.length_append]; omega)
  refine ⟨d, hd, ld_cell hc ?_⟩
  rw [List.getElem_append_right (by omega)]
  have e : ys[i - xs.length] = v := by
    have := (List.getElem?_eq_some_iff.1 hj).2
    rw [← this]; congr 1; omega
  rw [e]; exact hK

/-- the copies are as the arguments: the second half -/
theorem memory_tail {p : PlanR} {oq : Option Addr} {ol oc : Nat} {steps : List St} {sq : Option Addr} {sl sc : Nat} {w w0 : World} {u : List UInt8} {k1 : Nat} {K : Value → World → Prop} {X : List PanicEntry → World → Prop} (hw : Lw w) (hw0 : Ext w w0) (hp : PS w p oq ol oc steps sq sl sc) (hb0 : ol ≤ 1048576) (hb1 : sl ≤ 1048576)
    (hpr : printSpec p steps = .ok u) (hk1 : w0.heap[k1]? = some (.cells (p.cells oq ol oc).toArray 24 (0, 0))) (hkw : w.heap.size ≤ k1) (h : ∀ w', Ext w w' → K (.bool true) w') :
    call P n_script_Parse [.string ⟨u.toArray⟩] w0 (fun v47 w31 =>
 tuN 4 v47 (fun v48 v49 v50 v51 => show Prop from
 agN 8 v48 (fun v52 v53 v54 v55 v56 v57 v58 v59 => show Prop from
 asI .i64 v52 fun n24 =>
 asI .i64 v53 fun n25 =>
 asI .i64 v54 fun n26 =>
 asL v55 fun q12 q12l q12c =>
 asI .i64 v56 fun n27 =>
 asI .i64 v57 fun n28 =>
 asI .i64 v58 fun n29 =>
 asI .i64 v59 fun n30 =>
 asL v49 fun q13 q13l q13c =>
 asI .i64 v50 fun n31 =>
 asI .i64 v51 fun n32 =>
 al w31 (.cells (#[.int .i64 0, .int .i64 0, .int .i64 0, .slice none 0 0, .int .i64 0, .int .i64 0, .int .i64 0, .int .i64 0]) 24) fun k5 w32 =>
 st w32 (⟨k5, 0, none⟩ : Addr) [.int .i64 n24, .int .i64 n25, .int .i64 n26, .slice q12 q12l q12c, .int .i64 n27, .int .i64 n28, .int .i64 n29, .int .i64 n30] fun w33 =>
 call P n_script_Parse [.string ⟨u.toArray⟩] w33 (fun v60 w34 =>
 tuN 4 v60 (fun v61 v62 v63 v64 => show Prop from
 agN 8 v61 (fun v65 v66 v67 v68 v69 v70 v71 v72 => show Prop from
 asI .i64 v65 fun n33 =>
 asI .i64 v66 fun n34 =>
 asI .i64 v67 fun n35 =>
 asL v68 fun q14 q14l q14c =>
 asI .i64 v69 fun n36 =>
 asI .i64 v70 fun n37 =>
 asI .i64 v71 fun n38 =>
 asI .i64 v72 fun n39 =>
 asL v62 fun q15 q15l q15c =>
 asI .i64 v63 fun n40 =>
 asI .i64 v64 fun n41 =>
 al w34 (.cells (#[.int .i64 0, .int .i64 0, .int .i64 0, .slice none 0 0, .int .i64 0, .int .i64 0, .int .i64 0, .int .i64 0]) 24) fun k6 w35 =>
 st w35 (⟨k6, 0, none⟩ : Addr) [.int .i64 n33, .int .i64 n34, .int .i64 n35, .slice q14 q14l q14c, .int .i64 n36, .int .i64 n37, .int .i64 n38, .int .i64 n39] fun w36 =>
 ∀ L1 : List Value → World → Prop, (∀ n42 w37, (∀ _ : Env,
 ld w37 (⟨k5, 3, none⟩ : Addr) fun v73 =>
 asL v73 fun q16 q16l q16c =>
 cnd (iLt n42 (lenN q16l)) (
 ld w37 (⟨k5, 3, none⟩ : Addr) fun v75 =>
 asL v75 fun q17 q17l q17c =>
 inB n42 q17l ∧ nn q17 fun d2 =>
 ∀ d1, d1 = Addr.add d2 (scale (Int.toNat n42) 3) →
 st w37 d1 [.int .i64 9, .int .i64 0, .float .f64 0] fun w39 =>
 L1 [.int .i64 (iAdd .i64 n42 1)] w39) (
 ∀ L2 : List Value → World → Prop, (∀ n43 w40, (∀ _ : Env,
 cnd (iLt n43 (lenN q13l)) (
 inB n43 q13l ∧ nn q13 fun d4 =>
 ∀ d3, d3 = Addr.add d4 (scale (Int.toNat n43) 5) →
 st w40 d3 [.int .i64 9, .int .i64 0, .int .i64 0, .int .u64 0, .float .f64 0] fun w42 =>
 L2 [.int .i64 (iAdd .i64 n43 1)] w42) (
 ∀ L3 : List Value → World → Prop, (∀ q18 q18l q18c n44 w43, (∀ _ : Env,
 cnd (iLt n44 9) (
 ld w43 (⟨k5, 3, none⟩ : Addr) fun v77 =>
 asL v77 fun q19 q19l q19c =>
 al w43 (.cells (#[.int .i64 8, .int .i64 0, .float .f64 0]) 49) fun k7 w44 =>
 runV P (Builtin.append_ #[22, 22] 22 #[.slice q19 q19l q19c, .slice (some ⟨k7, 0, none⟩) 1 1]) w44 (fun v79 w46 =>
 asL v79 fun q20 q20l q20c =>
 st w46 (⟨k5, 3, none⟩ : Addr) [.slice q20 q20l q20c] fun w47 =>
 al w47 (.cells (#[.int .i64 8, .int .i64 0, .int .i64 0, .int .u64 0, .float .f64 0]) 46) fun k8 w48 =>
 runV P (Builtin.append_ #[25, 25] 25 #[.slice q18 q18l q18c, .slice (some ⟨k8, 0, none⟩) 1 1]) w48 (fun v81 w50 =>
 asL v81 fun q21 q21l q21c =>
 L3 [.slice q21 q21l q21c, .int .i64 (iAdd .i64 n44 1)] w50) X) X) (
 ∀ K8 : List Value → World → Prop, (∀ b9 w51, (∀ _ : Env,
 ∀ K9 : List Value → World → Prop, (∀ b10 w52, (∀ _ : Env,
 ∀ K10 : List Value → World → Prop, (∀ b11 w53, (∀ _ : Env,
 ∀ K11 : List Value → World → Prop, (∀ b12 w54, (∀ _ : Env,
 K (.bool b12) w54) → K11 [.bool b12] w54) →
 cnd b11 (
 K11 [.bool (iEq (lenN q18l) (iAdd .i64 (lenN q15l) 9))] w53) (
 K11 [.bool false] w53)) → K10 [.bool b11] w53) →
 cnd b10 (
 call P n_repriselaw21_same [.slice q15 q15l q15c, .slice sq sl sc] w52 (fun v84 w57 =>
 asB v84 fun b13 =>
 K10 [.bool b13] w57) X) (
 K10 [.bool false] w52)) → K9 [.bool b10] w52) →
 cnd b9 (
 ld w51 (⟨k6, 0, none⟩ : Addr) fun v85 =>
 asI .i64 v85 fun n45 =>
 ld w51 (⟨k6, 1, none⟩ : Addr) fun v86 =>
 asI .i64 v86 fun n46 =>
 ld w51 (⟨k6, 2, none⟩ : Addr) fun v87 =>
 asI .i64 v87 fun n47 =>
 ld w51 (⟨k6, 3, none⟩ : Addr) fun v88 =>
 asL v88 fun q22 q22l q22c =>
 ld w51 (⟨k6, 4, none⟩ : Addr) fun v89 =>
 asI .i64 v89 fun n48 =>
 ld w51 (⟨k6, 5, none⟩ : Addr) fun v90 =>
 asI .i64 v90 fun n49 =>
 ld w51 (⟨k6, 6, none⟩ : Addr) fun v91 =>
 asI .i64 v91 fun n50 =>
 ld w51 (⟨k6, 7, none⟩ : Addr) fun v92 =>
 asI .i64 v92 fun n51 =>
 ld w51 (⟨k1, 0, none⟩ : Addr) fun v93 =>
 asI .i64 v93 fun n52 =>
 ld w51 (⟨k1, 1, none⟩ : Addr) fun v94 =>
 asI .i64 v94 fun n53 =>
 ld w51 (⟨k1, 2, none⟩ : Addr) fun v95 =>
 asI .i64 v95 fun n54 =>
 ld w51 (⟨k1, 3, none⟩ : Addr) fun v96 =>
 asL v96 fun q23 q23l q23c =>
 ld w51 (⟨k1, 4, none⟩ : Addr) fun v97 =>
 asI .i64 v97 fun n55 =>
 ld w51 (⟨k1, 5, none⟩ : Addr) fun v98 =>
 asI .i64 v98 fun n56 =>
 ld w51 (⟨k1, 6, none⟩ : Addr) fun v99 =>
 asI .i64 v99 fun n57 =>
 ld w51 (⟨k1, 7, none⟩ : Addr) fun v100 =>
 asI .i64 v100 fun n58 =>
 call P n_repriselaw21_plans [.agg #[.int .i64 n45, .int .i64 n46, .int .i64 n47, .slice q22 q22l q22c, .int .i64 n48, .int .i64 n49, .int .i64 n50, .int .i64 n51], .agg #[.int .i64 n52, .int .i64 n53, .int .i64 n54, .slice q23 q23l q23c, .int .i64 n55, .int .i64 n56, .int .i64 n57, .int .i64 n58]] w51 (fun v101 w58 =>
 asB v101 fun b14 =>
 K9 [.bool b14] w58) X) (
 K9 [.bool false] w51)) → K8 [.bool b9] w51) →
 cnd (iEq n32 0) (
 K8 [.bool (iEq n41 0)] w43) (
 K8 [.bool false] w43))) → L3 [.slice q18 q18l q18c, .int .i64 n44] w43) → L3 [.slice q13 q13l q13c, .int .i64 0] w40)) → L2 [.int .i64 n43] w40) → L2 [.int .i64 0] w37)) → L1 [.int .i64 n42] w37) → L1 [.int .i64 0] w36))) X))) X := by
  have hpp := parse_print hp.wf hp.swf hpr
  have hul := (print_some hpr).2.2.2
  have hu : (⟨u.toArray⟩ : ByteArray).size = u.length := by rw [size_len]
  obtain ⟨io, io1, io2, io3, io4⟩ := info_of (P := P) (e := 49) (size := 3) (bytes := 24) (z := .agg #[.int .i64 0, .int .i64 0, .float .f64 0]) (by kernel_rfl) (by kernel_rfl)
  obtain ⟨is, is1, is2, is3, is4⟩ := info_of (P := P) (e := 46) (size := 5) (bytes := 40) (z := .agg #[.int .i64 0, .int .i64 0, .int .i64 0, .int .u64 0, .float .f64 0]) (by kernel_rfl) (by kernel_rfl)
  refine parseR_el (R := ⟨p, steps, 0, 0⟩) (hw.ext hw0) (by rw [hu]; omega) hpp (fun oqa ola oca sqa sla sca w31 ha => ?_)
  refine al_el fun k5 w32 hk5 hb5 hx5 hs5 => ?_
  refine st_el hb5 (by simp) fun w33 h33 hu33 hs33 => ?_
  have hx33 : Ext w31 w33 := Ext.upd hx5 hu33 (fun i hi => by omega)
  have h33' : w33.heap[k5]? = some (.cells (p.cells oqa ola oca).toArray 24 (0, 0)) := h33
  have hw33 : Ext w w33 := (hw0.trans ha.ext).trans hx33
  refine parseR_el (R := ⟨p, steps, 0, 0⟩) (hw.ext hw33) (by rw [hu]; omega) hpp (fun oqb olb ocb sqb slb scb w34 hc => ?_)
  refine al_el fun k6 w35 hk6 hb6 hx6 hs6 => ?_
  refine st_el hb6 (by simp) fun w36 h36 hu36 hs36 => ?_
  have hx36 : Ext w34 w36 := Ext.upd hx6 hu36 (fun i hi => by omega)
  have h36' : w36.heap[k6]? = some (.cells (p.cells oqb olb ocb).toArray 24 (0, 0)) := h36
  have h33_36 : Ext w33 w36 := hc.ext.trans hx36
  have hw36 : Ext w w36 := hw33.trans h33_36
  have h5 : w36.heap[k5]? = some (.cells (p.cells oqa ola oca).toArray 24 (0, 0)) := h33_36.blk h33' (fun h => h)
  have h1 : w36.heap[k1]? = some (.cells (p.cells oq ol oc).toArray 24 (0, 0)) := ((ha.ext.trans hx33).trans h33_36).blk hk1 (fun h => h)
  have ro := ha.ops.ext (hx33.trans h33_36)
  have rs := ha.steps.ext (hx33.trans h33_36)
  have ao : ∀ x, blkOf oqa = some x → x < k5 := fun x hx => by have := ha.ops.lt hx; omega
  have as_ : ∀ x, blkOf sqa = some x → x < k5 := fun x hx => by have := ha.steps.lt hx; omega
  have lo : ∀ x, blkOf oqa = some x → w0.heap.size ≤ x := ha.newo
  have ls : ∀ x, blkOf sqa = some x → w0.heap.size ≤ x := ha.news
  have k1lt := blk_lt hk1
  have k5lt : k5 < w33.heap.size := blk_lt h33'
  have k6ge : w33.heap.size ≤ k6 := by rw [hk6]; exact hc.ext.size
  have s36 := hw36.size
  have s0 : w0.heap.size ≤ k5 := by rw [hk5]; exact ha.ext.size
  have hola : ola = p.ops.length := ha.nops
  have hsla : sla = steps.length := ha.nsteps
  have hol := hp.nops
  have hsl := hp.nsts
  intro L1 hL1
  have l1 : ∀ (m i : Nat) (w37 : World) (xs : List Value), i + m = ola → Row w37 49 3 oqa ola oca xs → Upd (fun b => blkOf oqa = some b) w36 w37 → L1 [.int .i64 (i : Int)] w37 := by
    intro m
    induction m with
    | succ m ihm =>
      intro i w37 xs him hr hU
      have h5' : w37.heap[k5]? = some (.cells (p.cells oqa ola oca).toArray 24 (0, 0)) := hU.blk h5 (fun hh => by have := ao _ hh; omega)
      refine hL1 _ _ fun _ => ?_
      refine ld_blk h5' (v := .slice oqa ola oca) rfl ?_
      simp only [asL_at]
      refine if_t (by rw [iLt_t, lenN_el]; omega) ?_
      refine ld_blk h5' (v := .slice oqa ola oca) rfl ?_
      simp only [asL_at]
      refine ⟨by unfold inB; omega, ?_⟩
      obtain ⟨g, hg⟩ := row_some hr (by omega)
      rw [hg, nn_at]
      intro d1 hd1
      rw [hd1, scale_eq, Int.toNat_natCast]
      rw [hg] at hr
      refine row_st (size := 3) hr (by omega) rfl (fun w39 xs' hr' hu' => ?_)
      have hnext : iAdd .i64 (i : Int) 1 = ((i + 1 : Nat) : Int) := by rw [iAdd_i64 (by omega) (by omega)]; omega
      rw [hnext]
      refine ihm (i + 1) w39 xs' (by omega) (by rw [hg]; exact hr') (Upd.next hU hu' (fun b _ hb => ?_))
      rw [hg]; simp only [blkOf, Option.map_some]; rw [hb]
    | zero =>
      intro i w37 xs him hr hU
      have h5' : w37.heap[k5]? = some (.cells (p.cells oqa ola oca).toArray 24 (0, 0)) := hU.blk h5 (fun hh => by have := ao _ hh; omega)
      refine hL1 _ _ fun _ => ?_
      refine ld_blk h5' (v := .slice oqa ola oca) rfl ?_
      simp only [asL_at]
      refine if_f (by rw [iLt_f, lenN_el]; omega) ?_
      intro L2 hL2
      have l2 : ∀ (m j : Nat) (w40 : World) (xo xs : List Value), j + m = sla → Row w40 49 3 oqa ola oca xo → Row w40 46 5 sqa sla sca xs → Upd (fun b => blkOf oqa = some b ∨ blkOf sqa = some b) w36 w40 → L2 [.int .i64 (j : Int)] w40 := by
        intro m
        induction m with
        | succ m ihm =>
          intro j w40 xo xs him hro hr hU
          refine hL2 _ _ fun _ => if_t (by rw [iLt_t, lenN_el]; omega) ?_
          refine ⟨by unfold inB; omega, ?_⟩
          obtain ⟨g, hg⟩ := row_some hr (by omega)
          rw [hg, nn_at]
          intro d1 hd1
          rw [hd1, scale_eq, Int.toNat_natCast]
          rw [hg] at hr
          refine row_st (size := 5) hr (by omega) rfl (fun w42 xs' hr' hu' => ?_)
          have hnext : iAdd .i64 (j : Int) 1 = ((j + 1 : Nat) : Int) := by rw [iAdd_i64 (by omega) (by omega)]; omega
          rw [hnext]
          have hgb : blkOf sqa = some g := by rw [hg]; rfl
          refine ihm (j + 1) w42 xo xs' (by omega) (hro.upd hu' (fun b hb hbg => ?_)) (by rw [hg]; exact hr') (Upd.next hU hu' (fun b _ hb => ?_))
          · have : b = g := hbg
            exact ha.apart b hb (by rw [this]; exact hgb)
          · right; rw [hgb]; exact congrArg Option.some (show g = b from hb.symm)
        | zero =>
          intro j w40 xo xs him hro hr hU
          refine hL2 _ _ fun _ => if_f (by rw [iLt_f, lenN_el]; omega) ?_
          have h5'' : w40.heap[k5]? = some (.cells (p.cells oqa ola oca).toArray 24 (0, 0)) := hU.blk h5 (fun hh => by
            rcases hh with hh | hh
            · have := ao _ hh; omega
            · have := as_ _ hh; omega)
          intro L3 hL3
          have l3 : ∀ (m i : Nat) (qo q : Option Addr) (co c : Nat) (w43 : World) (xo xs : List Value), i + m = 9 → w43.heap[k5]? = some (.cells (p.cells qo (ola + i) co).toArray 24 (0, 0)) → Row w43 49 3 qo (ola + i) co xo → Row w43 46 5 q (sla + i) c xs →
              (∀ x, blkOf qo = some x → blkOf q ≠ some x) → (∀ x, blkOf qo = some x → x ≠ k5) → (∀ x, blkOf q = some x → x ≠ k5) → (∀ x, blkOf qo = some x → blkOf oqa = some x ∨ w36.heap.size ≤ x) → (∀ x, blkOf q = some x → blkOf sqa = some x ∨ w36.heap.size ≤ x) →
              Upd (fun b => b = k5 ∨ blkOf oqa = some b ∨ blkOf sqa = some b) w36 w43 → L3 [.slice q (sla + i) c, .int .i64 (i : Int)] w43 := by
            intro m
            induction m with
            | succ m ihm =>
              intro i qo q co c w43 xo xs him h5w hro hr hap n1 n2 f1 f2 hU
              refine hL3 _ _ _ _ _ fun _ => if_t (by rw [iLt_t]; omega) ?_
              refine ld_blk h5w (v := .slice qo (ola + i) co) rfl ?_
              simp only [asL_at]
              refine al_el fun k7 w44 hk7 hb7 hx7 hs7 => ?_
              have k5w : k5 < w43.heap.size := blk_lt h5w
              refine append_any (size := 3) (bytes := 24) Go.Proofs.Tryz.underlying22 io1 io4 io2 io3 rfl (by decide) (hro.ext hx7) (m := 1) (news := opsCells [⟨8, 0, 0⟩]) rfl (news_blk hb7) (ops_one _) (by unfold maxLen; omega) (by omega) (fun q20 c20 w46 hr46 hu46 hf46 => ?_)
              simp only [asL_at]
              have h5x : w46.heap[k5]? = some (.cells (p.cells qo (ola + i) co).toArray 24 (0, 0)) := hu46.blk (hx7.blk h5w (fun h => h)) (fun hh => n1 _ hh rfl)
              have r46 : Row w46 46 5 q (sla + i) c xs := (hr.ext hx7).upd hu46 (fun b hb hb' => hap b hb' hb)
              have l46 : ∀ x, blkOf q20 = some x → blkOf q ≠ some x := fun x hx hq => by
                rcases hf46 x hx with hh | hh
                · exact hap x hh hq
                · have := hr.lt hq; omega
              have n46 : ∀ x, blkOf q20 = some x → x ≠ k5 := fun x hx => by
                rcases hf46 x hx with hh | hh
                · exact n1 x hh
                · omega
              refine st1_el h5x (by simp [PlanR.cells]) fun w47 h47 hu47 hs47 => ?_
              have h47' : w47.heap[k5]? = some (.cells (p.cells q20 (ola + i + 1) c20).toArray 24 (0, 0)) := h47
              have ro47 := hr46.upd hu47 (fun b hb hb' => n46 b hb hb')
              have r47 := r46.upd hu47 (fun b hb hb' => n2 b hb hb')
              refine al_el fun k8 w48 hk8 hb8 hx8 hs8 => ?_
              refine append_any (size := 5) (bytes := 40) Go.Proofs.Tryz.underlying25 is1 is4 is2 is3 rfl (by decide) (r47.ext hx8) (m := 1) (news := stepsCells [⟨8, 0, 0, 0, 0⟩]) rfl (news_blk hb8) (steps_one _) (by unfold maxLen; omega) (by omega) (fun q21 c21 w50 hr50 hu50 hf50 => ?_)
              simp only [asL_at]
              have hnext : iAdd .i64 (i : Int) 1 = ((i + 1 : Nat) : Int) := by rw [iAdd_i64 (by omega) (by omega)]; omega
              rw [hnext]
              have sz46 := hu46.size
              have sz48 := hx8.size
              have ro50 := (ro47.ext hx8).upd hu50 (fun b hb hb' => l46 b hb hb')
              have b36 := hU.size
              refine ihm (i + 1) q20 q21 c20 c21 w50 _ _ (by omega) (hu50.blk (hx8.blk h47' (fun h => h)) (fun hh => n2 _ hh rfl)) ro50 hr50 ?_ n46 ?_ ?_ ?_ ?_
              · intro x hx hq
                rcases hf50 x hq with hh | hh
                · exact l46 x hx hh
                · have := ro47.lt hx; omega
              · intro x hx
                rcases hf50 x hx with hh | hh
                · exact n2 x hh
                · omega
              · intro x hx
                rcases hf46 x hx with hh | hh
                · exact f1 x hh
                · right; omega
              · intro x hx
                rcases hf50 x hx with hh | hh
                · exact f2 x hh
                · right; omega
              · refine Upd.next (Upd.next (Upd.next (Upd.next (Upd.next hU hx7 (fun _ _ h => h.elim)) hu46 (fun b hb hh => ?_)) hu47 (fun b _ hh => .inl hh)) hx8 (fun _ _ h => h.elim)) hu50 (fun b hb hh => ?_)
                · rcases f1 b hh with hh | hh
                  · exact .inr (.inl hh)
                  · omega
                · rcases f2 b hh with hh | hh
                  · exact .inr (.inr hh)
                  · omega
            | zero =>
              intro i qo q co c w43 xo xs him h5w hro hr hap n1 n2 f1 f2 hU
              obtain rfl : i = 9 := by omega
              refine hL3 _ _ _ _ _ fun _ => if_f (by rw [iLt_f]; omega) ?_
              have hS : ∀ b, b < w0.heap.size ∨ w33.heap.size ≤ b → ¬ (b = k5 ∨ blkOf oqa = some b ∨ blkOf sqa = some b) := by
                intro b hb hh
                rcases hh with hh | hh | hh
                · omega
                · have h1 := ao _ hh; have h2 := lo _ hh; omega
                · have h1 := as_ _ hh; have h2 := ls _ hh; omega
              have hx43 : Ext w w43 := by
                have h0 := hw0.size
                exact ⟨hU.os.trans hw36.os, hU.tape.trans hw36.tape, hU.output.trans hw36.output, Nat.le_trans hw36.size hU.size, fun b hb _ => (hU.block b (by omega) (hS b (.inl (by omega)))).trans (hw36.block b hb (fun h => h))⟩
              have h1' : w43.heap[k1]? = some (.cells (p.cells oq ol oc).toArray 24 (0, 0)) := hU.blk h1 (hS _ (.inl k1lt))
              have h6' : w43.heap[k6]? = some (.cells (p.cells oqb olb ocb).toArray 24 (0, 0)) := hU.blk h36' (hS _ (.inr k6ge))
              have cb : Cells w43 oqb (opsCells p.ops) := ((hc.ops.ext hx36).upd hU (fun b hb => hS _ (.inr (hc.newo b hb)))).cells
              have sb_ : Cells w43 sqb (stepsCells steps) := ((hc.steps.ext hx36).upd hU (fun b hb => hS _ (.inr (hc.news b hb)))).cells
              intro K8 hK8
              refine if_t rfl ?_
              refine hK8 _ _ fun _ => ?_
              intro K9 hK9
              refine if_t rfl ?_
              refine ld_plan h6' ?_
              refine ld_plan h1' ?_
              refine plans_el (p := p) (r := p) cb (hp.ops.ext hx43) hc.nops hp.nops (by omega) (fun b w58 hb hx58 => ?_)
              obtain rfl : b = true := hb.2 rfl
              refine hK9 _ _ fun _ => ?_
              intro K10 hK10
              refine if_t rfl ?_
              refine same_el (l := steps) (m := steps) (sb_.ext hx58) (hp.sts.ext (hx43.trans hx58)) hc.nsteps hp.nsts (by omega) (fun b w57 hb hx57 => ?_)
              obtain rfl : b = true := hb.2 rfl
              refine hK10 _ _ fun _ => ?_
              intro K11 hK11
              refine if_t rfl ?_
              have e9 : iEq (lenN (sla + 9)) (iAdd .i64 (lenN slb) 9) = true := by
                have h1 : slb = steps.length := hc.nsteps
                rw [iEq_t, lenN_el, lenN_el, iAdd_i64 (by omega) (by omega)]; omega
              rw [e9]
              refine hK11 _ _ fun _ => ?_
              exact h w57 ((hx43.trans hx58).trans hx57)
          exact l3 9 0 oqa sqa oca sca w40 xo xs (by omega) h5'' hro hr ha.apart (fun x hx => by have := ao x hx; omega) (fun x hx => by have := as_ x hx; omega) (fun x hx => .inl hx) (fun x hx => .inl hx) (hU.mono (fun b _ hh => .inr hh))
      exact l2 sla 0 w37 xs _ (by omega) hr (rs.upd hU (fun b hb hb' => ha.apart b hb' hb)) (hU.mono (fun b _ hh => .inl hh))
  exact l1 ola 0 w36 _ (by omega) ro (Upd.refl _ _)
end Go.Proofs.YtgfbkmclekafbaaGreatDoor

/- ScriptMemory: true. -/
set_option maxRecDepth 100000
namespace Go.Proofs.YtgfbkmclekafbaaGreatDoor
open Go Go.Vc

theorem memory_el {p : PlanR} {oq : Option Addr} {ol oc : Nat} {steps : List St} {sq : Option Addr} {sl sc : Nat} {w : World} {K : Value → World → Prop} {X : List PanicEntry → World → Prop} (hw : Lw w) (hp : PS w p oq ol oc steps sq sl sc) (hb0 : ol ≤ 1048576) (hb1 : sl ≤ 1048576)
    (h : ∀ w', Ext w w' → K (.bool true) w') : call P n_repriselaw21_ScriptMemory [.agg (p.cells oq ol oc).toArray, .slice sq sl sc] w K X := by
  obtain ⟨io, io1, io2, io3, io4⟩ := info_of (P := P) (e := 49) (size := 3) (bytes := 24) (z := .agg #[.int .i64 0, .int .i64 0, .float .f64 0]) (by kernel_rfl) (by kernel_rfl)
  obtain ⟨is, is1, is2, is3, is4⟩ := info_of (P := P) (e := 46) (size := 5) (bytes := 40) (z := .agg #[.int .i64 0, .int .i64 0, .int .i64 0, .int .u64 0, .float .f64 0]) (by kernel_rfl) (by kernel_rfl)
  have hol := hp.nops
  have hsl := hp.nsts
  refine repriselaw21_ScriptMemory.call ?_
  unfold repriselaw21_ScriptMemory.F
  refine al_el fun k1 w1 hk1 hblk1 hx1 hs1 => ?_
  refine awake_el (hw.ext hx1) (fun w2 hx2 => ?_)
  simp only [asB_at]
  refine if_f rfl ?_
  have hb2 : w2.heap[k1]? = some (.cells (p.cells oq ol oc).toArray 24 (0, 0)) := hx2.blk hblk1 (fun h => h)
  have hw2 : Ext w w2 := hx1.trans hx2
  refine ld_plan hb2 ?_
  refine al_el fun k2 w3 hk2 hb3 hx3 hs3 => ?_
  refine st_el hb3 (by simp) fun w4 h4 hu4 hs4 => ?_
  have h4' : w4.heap[k2]? = some (.cells (p.cells oq ol oc).toArray 24 (0, 0)) := h4
  have hx4 : Ext w2 w4 := Ext.upd hx3 hu4 (fun i hi => by omega)
  have hw4 : Ext w w4 := hw2.trans hx4
  have hb4 : w4.heap[k1]? = some (.cells (p.cells oq ol oc).toArray 24 (0, 0)) := hx4.blk hb2 (fun h => h)
  have k2lt := blk_lt h4'
  refine ld_blk hb4 (v := .slice oq ol oc) rfl ?_
  simp only [asL_at]
  have e1 : iAdd .i64 (lenN ol) 2 = ((ol + 2 : Nat) : Int) := by rw [lenN_el, iAdd_i64 (by omega) (by omega)]; omega
  rw [e1]
  refine make_el Go.Proofs.Tryz.underlying22 io1 io4 io2 (by rw [io3]; omega) (by unfold maxLen; omega) (fun w6 hr6 hx6 => ?_)
  simp only [asL_at]
  refine ld_blk (hx6.blk hb4 (fun h => h)) (v := .slice oq ol oc) rfl ?_
  simp only [asL_at]
  refine append_any (size := 3) (bytes := 24) Go.Proofs.Tryz.underlying22 io1 io4 io2 io3 rfl (by decide) hr6 (m := ol) (news := opsCells p.ops) (by rw [opsCells_len, hol]) (hp.ops.ext (hw4.trans hx6)) (ops_one _) (by unfold maxLen; omega) (by omega) (fun q5 c5 w8 hr8 hu8 hf8 => ?_)
  simp only [asL_at, Nat.zero_add, List.nil_append] at hr8 ⊢
  have hx8 : Ext w4 w8 := Ext.upd hx6 hu8 (fun i hi => by simp [blkOf] at hi; omega)
  have hn8 : ∀ b, blkOf q5 = some b → w4.heap.size ≤ b := fun b hb => by
    rcases hf8 b hb with hh | hh
    · simp [blkOf] at hh; omega
    · have := hx6.size; omega
  refine al_el fun k3 w9 hk3 hb9 hx9 hs9 => ?_
  refine append_any (size := 3) (bytes := 24) Go.Proofs.Tryz.underlying22 io1 io4 io2 io3 rfl (by decide) (hr8.ext hx9) (m := 2) (news := opsCells opS) rfl (news_blk hb9) (ops_one _) (by unfold maxLen; omega) (by omega) (fun q6 c6 w11 hr11 hu11 hf11 => ?_)
  simp only [asL_at]
  have hx11 : Ext w4 w11 := Ext.upd (hx8.trans hx9) hu11 (fun i hi => hn8 i hi)
  have hn11 : ∀ b, blkOf q6 = some b → w4.heap.size ≤ b := fun b hb => by
    rcases hf11 b hb with hh | hh
    · exact hn8 b hh
    · have := (hx8.trans hx9).size; omega
  have e2 : Int.toNat (lenN ol) = ol := by rw [lenN_el, Int.toNat_natCast]
  have le6 := hr11.le.1
  refine ⟨by unfold inC; rw [lenN_el]; omega, ?_⟩
  have e3 : (.slice q6 (sb (Int.toNat (lenN ol)) 0) (sb c6 0) : Value) = .slice q6 ol c6 := by rw [e2]; rfl
  rw [e3]
  refine st1_el (hx11.blk h4' (fun h => h)) (by simp [PlanR.cells]) fun w12 h12 hu12 hs12 => ?_
  have h12' : w12.heap[k2]? = some (.cells (p.cells q6 ol c6).toArray 24 (0, 0)) := h12
  have r12 : Row w12 49 3 q6 (ol + 2) c6 (opsCells p.ops ++ opsCells opS) := hr11.upd hu12 (fun b hb hh => by have := hn11 b hb; omega)
  have hw12 : Ext w w12 := Ext.upd (hw4.trans hx11) hu12 (fun i hi => by rw [hi, hk2]; exact hw2.size)
  have hb12 : w12.heap[k1]? = some (.cells (p.cells oq ol oc).toArray 24 (0, 0)) := hu12.blk (hx11.blk hb4 (fun h => h)) (fun hh => by have := blk_lt hb2; omega)
  have e4 : iAdd .i64 (lenN sl) 2 = ((sl + 2 : Nat) : Int) := by rw [lenN_el, iAdd_i64 (by omega) (by omega)]; omega
  rw [e4]
  refine make_el Go.Proofs.Tryz.underlying25 is1 is4 is2 (by rw [is3]; omega) (by unfold maxLen; omega) (fun w14 hr14 hx14 => ?_)
  simp only [asL_at]
  refine append_any (size := 5) (bytes := 40) Go.Proofs.Tryz.underlying25 is1 is4 is2 is3 rfl (by decide) hr14 (m := sl) (news := stepsCells steps) (by rw [stepsCells_len, hsl]) (hp.sts.ext (hw12.trans hx14)) (steps_one _) (by unfold maxLen; omega) (by omega) (fun q8 c8 w16 hr16 hu16 hf16 => ?_)
  simp only [asL_at, Nat.zero_add, List.nil_append] at hr16 ⊢
  have hx16 : Ext w12 w16 := Ext.upd hx14 hu16 (fun i hi => by simp [blkOf] at hi; omega)
  have hn16 : ∀ b, blkOf q8 = some b → w12.heap.size ≤ b := fun b hb => by
    rcases hf16 b hb with hh | hh
    · simp [blkOf] at hh; omega
    · have := hx14.size; omega
  refine al_el fun k4 w17 hk4 hb17 hx17 hs17 => ?_
  refine append_any (size := 5) (bytes := 40) Go.Proofs.Tryz.underlying25 is1 is4 is2 is3 rfl (by decide) (hr16.ext hx17) (m := 2) (news := stepsCells stS) rfl (news_blk hb17) (steps_one _) (by unfold maxLen; omega) (by omega) (fun q9 c9 w19 hr19 hu19 hf19 => ?_)
  simp only [asL_at]
  have hx19 : Ext w12 w19 := Ext.upd (hx16.trans hx17) hu19 (fun i hi => hn16 i hi)
  intro w20 hw20
  subst hw20
  have hx20 : Ext w12 w19.drew := hx19.trans Upd.drew
  have hw20 : Ext w w19.drew := hw12.trans hx20
  have le9 := hr19.le.1
  have own20 : Row w19.drew 49 3 q6 (ol + 2) c6 (opsCells p.ops ++ opsCells opS) := r12.ext hx20
  have mine20 : Row w19.drew 46 5 q9 (sl + 2) c9 (stepsCells steps ++ stepsCells stS) := hr19.ext Upd.drew
  have h20 : w19.drew.heap[k2]? = some (.cells (p.cells q6 ol c6).toArray 24 (0, 0)) := hx20.blk h12' (fun h => h)
  have hb20 : w19.drew.heap[k1]? = some (.cells (p.cells oq ol oc).toArray 24 (0, 0)) := hx20.blk hb12 (fun h => h)
  refine ld_plan h20 ?_
  refine ⟨by unfold inC; rw [lenN_el]; omega, ?_⟩
  have e5 : Int.toNat (lenN sl) = sl := by rw [lenN_el, Int.toNat_natCast]
  have e6 : (.slice q9 (sb (Int.toNat (lenN sl)) 0) (sb c9 0) : Value) = .slice q9 sl c9 := by rw [e5]; rfl
  rw [e6]
  have co : Cells w19.drew q6 (opsCells p.ops) := Cells.left own20.cells
  have cs : Cells w19.drew q9 (stepsCells steps) := Cells.left mine20.cells
  refine print_el (p := p) (steps := steps) (oq := q6) (ol := ol) (oc := c6) (hw.ext hw20) hp.wf co hol cs hsl hp.swf (by omega) (by omega) (fun w22 hx22 => ?_)
  obtain ⟨S, E, hSE, hok⟩ : ∃ S E, printV (printSpec p steps) = .tuple #[.string S, .int .i64 E] ∧ (E = 0 → ∃ u, printSpec p steps = .ok u ∧ S = ⟨u.toArray⟩) := by
    cases hpr : printSpec p steps with
    | ok u => exact ⟨_, _, rfl, fun _ => ⟨u, rfl, rfl⟩⟩
    | error e => exact ⟨_, e, rfl, fun he => by have := print_err hpr; omega⟩
  rw [hSE]
  have hw22 : Ext w w22 := hw20.trans hx22
  refine ld_plan (hx22.blk hb20 (fun h => h)) ?_
  refine print_el (p := p) (steps := steps) (oq := oq) (ol := ol) (oc := oc) (hw.ext hw22) hp.wf (hp.ops.ext hw22) hol (hp.sts.ext hw22) hsl hp.swf (by omega) (by omega) (fun w23 hx23 => ?_)
  rw [hSE]
  have hx20_23 : Ext w19.drew w23 := hx22.trans hx23
  have hw23 : Ext w w23 := hw22.trans hx23
  intro K1 hK1
  refine if_f (by rw [sNe_f]) ?_
  have eE : iNe E E = false := by rw [iNe_f]
  show K1 [.bool (iNe E E)] w23
  rw [eE]
  refine hK1 _ _ fun _ => ?_
  intro K2 hK2
  refine if_f rfl ?_
  refine ld_plan (hx20_23.blk hb20 (fun h => h)) ?_
  refine ld_plan (hx20_23.blk h20 (fun h => h)) ?_
  refine plans_el (p := p) (r := p) (hp.ops.ext hw23) (co.ext hx20_23) hol hol (by omega) (fun b w24 hb hx24 => ?_)
  obtain rfl : b = true := hb.2 rfl
  refine hK2 _ _ fun _ => ?_
  intro K3 hK3
  refine if_f rfl ?_
  refine ⟨by unfold inC; rw [lenN_el]; omega, ?_⟩
  refine same_el (l := steps) (m := steps) (cs.ext (hx20_23.trans hx24)) (hp.sts.ext (hw23.trans hx24)) hsl hsl (by omega) (fun b w25 hb hx25 => ?_)
  obtain rfl : b = true := hb.2 rfl
  have hx25 : Ext w19.drew w25 := (hx20_23.trans hx24).trans hx25
  have hw25 : Ext w w25 := hw20.trans hx25
  have own25 := (own20.ext hx25).cells
  have mine25 := (mine20.ext hx25).cells
  refine hK3 _ _ fun _ => ?_
  intro K4 hK4
  refine if_f rfl ?_
  refine ⟨by unfold inB; rw [lenN_el]; omega, ?_⟩
  have lop : (opsCells p.ops).length = ol * 3 := by rw [opsCells_len, hol]
  have lst : (stepsCells steps).length = sl * 5 := by rw [stepsCells_len, hsl]
  obtain ⟨do_, hdo, _⟩ := ld_kind (K := fun _ => True) own25 (j := 0) (i := ol * 3) (v := .int .i64 71) rfl (by omega) trivial
  obtain ⟨ds, hds, _⟩ := ld_kind (K := fun _ => True) mine25 (j := 0) (i := sl * 5) (v := .int .i64 73) rfl (by omega) trivial
  have kind : ∀ {q : Option Addr} {d : Addr} {xs ys : List Value} {i j : Nat} {v : Value} {K : Value → Prop}, Cells w25 q (xs ++ ys) → q = some d → ys[j]? = some v → i = xs.length + j → K v → ld w25 (d.add i) K := by
    intro q d xs ys i j v K hc hq hj hi hk
    obtain ⟨d', hd', hl⟩ := ld_kind hc hj hi hk
    rw [hq] at hd'; cases hd'; exact hl
  rw [hdo, nn_at]
  intro d11 hd11
  rw [hd11, scale_eq, e2]
  refine kind own25 hdo (j := 0) (v := .int .i64 71) rfl (by omega) ?_
  refine hK4 _ _ fun _ => ?_
  intro K5 hK5
  refine if_f rfl ?_
  have e7 : iAdd .i64 (lenN ol) 1 = ((ol + 1 : Nat) : Int) := by rw [lenN_el, iAdd_i64 (by omega) (by omega)]; omega
  rw [e7]
  refine ⟨by unfold inB; omega, ?_⟩
  rw [hdo, nn_at]
  intro d9 hd9
  rw [hd9, scale_eq, Int.toNat_natCast]
  refine kind own25 hdo (j := 3) (v := .int .i64 72) rfl (by omega) ?_
  refine hK5 _ _ fun _ => ?_
  intro K6 hK6
  refine if_f rfl ?_
  refine ⟨by unfold inB; rw [lenN_el]; omega, ?_⟩
  rw [hds, nn_at]
  intro d7 hd7
  rw [hd7, scale_eq, e5]
  refine kind mine25 hds (j := 0) (v := .int .i64 73) rfl (by omega) ?_
  refine hK6 _ _ fun _ => ?_
  intro K7 hK7
  refine if_f rfl ?_
  have e8 : iAdd .i64 (lenN sl) 1 = ((sl + 1 : Nat) : Int) := by rw [lenN_el, iAdd_i64 (by omega) (by omega)]; omega
  rw [e8]
  refine ⟨by unfold inB; omega, ?_⟩
  rw [hds, nn_at]
  intro d5 hd5
  rw [hd5, scale_eq, Int.toNat_natCast]
  refine kind mine25 hds (j := 5) (v := .int .i64 74) rfl (by omega) ?_
  refine hK7 _ _ fun _ => ?_
  refine if_f rfl ?_
  refine cnd_i (fun _ => h w25 hw25) (fun hE => ?_)
  rw [iNe_f] at hE
  obtain ⟨u, hpr, rfl⟩ := hok hE
  exact memory_tail hw hw25 hp hb0 hb1 hpr (hx25.blk hb20 (fun h => h)) (by omega) h
end Go.Proofs.YtgfbkmclekafbaaGreatDoor
