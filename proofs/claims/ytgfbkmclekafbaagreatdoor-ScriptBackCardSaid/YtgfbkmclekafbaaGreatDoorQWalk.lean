/- ScriptForth: true. -/
import Derived.Test.YtgfbkmclekafbaaGreatDoorQConD
import Derived.Test.YtgfbkmclekafbaaGreatDoorQRd4
set_option linter.unusedVariables false
set_option linter.unusedSimpArgs false
set_option linter.unnecessarySimpa false
set_option maxRecDepth 100000
namespace Go.Proofs.YtgfbkmclekafbaaGreatDoor
open Go Go.Vc

theorem forth_el {s : ByteArray} {w : World} {K : Value → World → Prop} {X : List PanicEntry → World → Prop} (hw : Lw w) (hs : s.size < 4294967181) (h : ∀ w', Ext w w' → K (.bool true) w') :
    call P n_repriselaw21_ScriptForth [.string s] w K X := by
  refine repriselaw21_ScriptForth.call ?_
  unfold repriselaw21_ScriptForth.F
  refine awake_el hw (fun w1 hx1 => ?_)
  simp only [asB_at]
  refine if_f rfl ?_
  obtain ⟨R, hR⟩ : ∃ R, parseText s.data.toList = R := ⟨_, rfl⟩
  refine parseR_el (hw.ext hx1) hs hR (fun oq ol oc sq sl sc w2 hp => ?_)
  have hno := forth_no (l := s.data.toList)
  have hyes := forth_ok (l := s.data.toList)
  rw [hR] at hno hyes
  refine al_el fun k1 w3 hk1 hb1 hx3 hs3 => ?_
  refine st_el hb1 (by simp) fun w4 h4 hu4 hs4 => ?_
  have hx4 : Ext w2 w4 := Ext.upd hx3 hu4 (fun i hi => by omega)
  have h4' : w4.heap[k1]? = some (.cells (R.p.cells oq ol oc).toArray 24 (0, 0)) := h4
  have hw4 : Ext w w4 := (hx1.trans hp.ext).trans hx4
  have hop := hp.cellsO.ext hx4
  have hst := hp.cellsS.ext hx4
  refine cnd_i (fun hg => ?_) (fun hg => ?_)
  · rw [iNe_t] at hg
    obtain ⟨g1, g2, g3, g4⟩ := hno hg
    refine ld_blk h4' (v := .int .i64 R.p.p0) rfl ?_
    refine ld_blk h4' (v := .int .i64 R.p.p1) rfl ?_
    refine ld_blk h4' (v := .int .i64 R.p.p2) rfl ?_
    refine ld_blk h4' (v := .slice oq ol oc) rfl ?_
    refine ld_blk h4' (v := .int .i64 R.p.p4) rfl ?_
    refine ld_blk h4' (v := .int .i64 R.p.p5) rfl ?_
    refine ld_blk h4' (v := .int .i64 R.p.p6) rfl ?_
    refine ld_blk h4' (v := .int .i64 R.p.p7) rfl ?_
    refine plans_el (p := R.p) (r := zeroPlan) (oq' := none) (ol' := 0) (oc' := 0) hop (.inl rfl) hp.nops rfl (by rw [g1]; decide) (fun b w5 hb hx5 => ?_)
    obtain rfl : b = true := hb.2 g1
    intro K1 hK1
    refine if_t rfl ?_
    have e1 : iEq (lenN sl) 0 = true := by rw [iEq_t, lenN_el, hp.nsteps, g2]; rfl
    rw [e1]
    refine hK1 _ _ fun _ => ?_
    intro K2 hK2
    refine if_t rfl ?_
    have e2 : iGe (R.at_ : Int) 0 = true := by rw [iGe_t]; omega
    rw [e2]
    refine hK2 _ _ fun _ => ?_
    intro K3 hK3
    refine if_t rfl ?_
    have e3 : (iEq (R.at_ : Int) 0 == iEq R.e 6) = true := by
      rw [beq_iff_eq, Bool.eq_iff_iff, iEq_t, iEq_t, ← g3]; omega
    rw [e3]
    refine hK3 _ _ fun _ => ?_
    intro K4 hK4
    refine if_t rfl ?_
    have e4 : (iEq R.e 6 == iGt (lenN (ByteArray.size s)) 262144) = true := by
      rw [beq_iff_eq, Bool.eq_iff_iff, iEq_t, iGt_t, lenN_el, g4, size_len]; omega
    rw [e4]
    refine hK4 _ _ fun _ => ?_
    exact h w5 (hw4.trans hx5)
  · rw [iNe_f] at hg
    obtain ⟨g1, g2, g3, g4, g5⟩ := hyes hg
    refine ld_blk h4' (v := .int .i64 R.p.p0) rfl ?_
    refine ld_blk h4' (v := .int .i64 R.p.p1) rfl ?_
    refine ld_blk h4' (v := .int .i64 R.p.p2) rfl ?_
    refine ld_blk h4' (v := .slice oq ol oc) rfl ?_
    refine ld_blk h4' (v := .int .i64 R.p.p4) rfl ?_
    refine ld_blk h4' (v := .int .i64 R.p.p5) rfl ?_
    refine ld_blk h4' (v := .int .i64 R.p.p6) rfl ?_
    refine ld_blk h4' (v := .int .i64 R.p.p7) rfl ?_
    have hol : R.p.ops.length < 4294967296 := by
      have h1 := hp.ops.le
      have h2 : (ends (linesP R.p R.steps)).length = (bareF [] [] s.data.toList).length := by rw [g5]
      have h3 : ∀ ls : List (List UInt8), ls.length ≤ (ends ls).length := by
        intro ls
        induction ls with
        | nil => simp
        | cons x t ih => rw [ends_cons]; simp only [List.length_cons, List.length_append]; omega
      have h4 := h3 (linesP R.p R.steps)
      have h5 : ∀ (l cur : List UInt8), (ends (kept (cutAt 10 cur l))).length ≤ cur.length + l.length + 1 := by
        intro l
        induction l with
        | nil => intro cur; rw [cutAt]; by_cases hk : skipL cur = true <;> simp [kept, hk, ends]
        | cons x t ih =>
          intro cur
          rw [cutAt]
          split
          · have := ih []
            by_cases hk : skipL cur = true <;> simp [kept, hk, ends] at this ⊢ <;> omega
          · have := ih (cur ++ [x])
            simp only [List.length_append, List.length_cons, List.length_nil] at this ⊢; omega
      have h6 := h5 s.data.toList []
      rw [bare_eq] at h2
      simp only [List.nil_append, List.length_nil, Nat.zero_add] at h2 h6
      have h7 := size_len s
      have h8 : (linesP R.p R.steps).length = 1 + (R.p.ops.length + R.steps.length) := by simp [linesP]; omega
      omega
    refine print_el (p := R.p) (steps := R.steps) ((hw.ext hw4)) g2 hop hp.nops hst hp.nsteps (fun t ht => (g3 t ht).2.2.2) (by omega) (by omega) (fun w5 hx5 => ?_)
    rw [print_ok g4 (fun t ht => ⟨(g3 t ht).1, (g3 t ht).2.1, (g3 t ht).2.2.1⟩), g5]
    obtain ⟨want, hwant⟩ : ∃ want, bareF [] [] s.data.toList = want := ⟨_, rfl⟩
    rw [hwant]
    have hfin : Ext w w5 := hw4.trans hx5
    by_cases hbig : 262144 < want.length
    · rw [if_pos hbig]
      refine bare_el (by omega) (fun w6 hx6 => ?_)
      rw [hwant]
      refine if_t (by rw [iGt_t, lenN_el, size_len]; show (262144 : Int) < ((want.length : Nat) : Int); omega) ?_
      intro K5 hK5
      refine if_t rfl ?_
      refine hK5 _ _ fun _ => ?_
      have hse : sEq (bs []) (bs []) = true := by rw [sEq_t]
      show K (.bool (sEq (bs []) (bs []))) w6
      rw [hse]
      exact h w6 (hfin.trans hx6)
    · rw [if_neg hbig]
      refine bare_el (by omega) (fun w6 hx6 => ?_)
      rw [hwant]
      refine if_f (by rw [iGt_f, lenN_el, size_len]; show ((want.length : Nat) : Int) ≤ 262144; omega) ?_
      intro K6 hK6
      refine if_t (by rw [iEq_t, g1]; rfl) ?_
      refine hK6 _ _ fun _ => ?_
      intro K7 hK7
      refine if_t rfl ?_
      have hse : sEq (⟨want.toArray⟩ : ByteArray) ⟨want.toArray⟩ = true := by rw [sEq_t]
      show K7 [.bool (sEq (⟨want.toArray⟩ : ByteArray) ⟨want.toArray⟩)] w6
      rw [hse]
      refine hK7 _ _ fun _ => ?_
      exact h w6 (hfin.trans hx6)
end Go.Proofs.YtgfbkmclekafbaaGreatDoor

/- ScriptMany: true. -/
set_option maxRecDepth 100000
namespace Go.Proofs.YtgfbkmclekafbaaGreatDoor
open Go Go.Vc

def tickLn : List UInt8 := [116, 105, 99, 107, 10]
def headLn : List UInt8 := [112, 108, 97, 110, 32, 49, 32, 49, 32, 49, 32, 50, 32, 52, 32, 50, 32, 56, 10]
def ticks (n : Nat) : List UInt8 := (List.replicate n tickLn).flatten
theorem ticks_len (n : Nat) : (ticks n).length = 5 * n := by
  induction n with
  | zero => rfl
  | succ n ih => rw [ticks, List.replicate_succ, List.flatten_cons, List.length_append]; rw [ticks] at ih; rw [ih]; simp [tickLn]; omega
theorem ticks_succ (n : Nat) : ticks (n + 1) = ticks n ++ tickLn := by
  rw [ticks, List.replicate_succ', List.flatten_append]; simp [ticks]
def manySteps : List St := List.replicate 4096 wt1
theorem many_ends : headLn ++ ticks 4096 = ends (linesP wp0 manySteps) := by
  have h1 : ends (manySteps.map stepLine) = ticks 4096 := by
    rw [manySteps, List.map_replicate, ends, List.map_replicate, wt1_line]; rfl
  unfold linesP
  rw [show wp0.ops = [] from rfl, List.map_nil, List.nil_append, ends_cons, h1, wp0_line]; rfl
theorem many_ok : ∀ t ∈ manySteps, StOk t := by
  intro t ht
  rw [manySteps, List.mem_replicate] at ht
  rw [ht.2]; exact wt_ok wt1 (by simp)
theorem many_len : manySteps.length = 4096 := by rw [manySteps, List.length_replicate]
theorem wp0_wf : wp0.wf := ⟨fun n hn => wp1_wf.nums n hn, fun o ho => by cases ho⟩
theorem many_parse : parseText (headLn ++ ticks 4096) = ⟨wp0, manySteps, 0, 0⟩ := by
  refine parse_print wp0_wf (fun t ht => (many_ok t ht).2.2.2) ?_
  rw [print_ok (by rw [many_len]; exact Nat.le_refl _) (fun t ht => ⟨(many_ok t ht).1, (many_ok t ht).2.1, (many_ok t ht).2.2.1⟩), ← many_ends, if_neg]
  rw [List.length_append, ticks_len]; decide
theorem many_more {x : List UInt8} (hx : (10 : UInt8) ∉ x) (hs : skipL x = false) (hl : x.length ≤ 1000) : parseText (headLn ++ ticks 4096 ++ [10] ++ x ++ [10]) = ⟨zeroPlan, [], 4099, 212⟩ := by
  have hrun := run_lines (p := wp0) (steps := manySteps) wp0_wf (by rw [many_len]; exact Nat.le_refl _) many_ok
  have hcut : cutAt 10 [] (headLn ++ ticks 4096 ++ [10] ++ x ++ [10]) = linesP wp0 manySteps ++ [[], x, []] := by
    rw [many_ends, List.append_assoc, List.append_assoc, cut_ends _ _ (linesP_no10 _ _)]
    congr 1
    rw [List.singleton_append, cutAt, if_pos rfl, cutAt_at x [] [] hx]; simp [cutAt]
  have hlen : (linesP wp0 manySteps).length = 4097 := by simp [linesP, many_len, wp0]
  unfold parseText
  rw [if_neg (by simp only [List.length_append, ticks_len, List.length_cons, List.length_nil, headLn]; omega), hcut, parseL_run _ _ _ _ hrun, hlen]
  have h0 : stepL ⟨wp0, manySteps, true⟩ [] = .ok ⟨wp0, manySteps, true⟩ := rfl
  have h1 : stepL ⟨wp0, manySteps, true⟩ x = .error 212 := by
    unfold stepL
    rw [if_neg (by rw [hs]; decide)]
    obtain ⟨w, args, hb, _⟩ := line_blanks x
    rw [hb]
    unfold lineSpec
    simp only [List.map_cons]
    rw [if_neg (by decide), if_neg, if_neg]
    · rw [many_len]; decide
    · rintro ⟨_, h⟩
      have := many_len
      rw [h] at this; cases this
  rw [parseL, h0]
  simp only
  rw [parseL, h1]

theorem many_print {p : PlanR} : printSpec p (manySteps ++ [wt1]) = .error 212 := by
  unfold printSpec
  rw [if_pos (by rw [List.length_append, many_len]; decide)]
end Go.Proofs.YtgfbkmclekafbaaGreatDoor

/- ScriptBack: true. -/
set_option maxRecDepth 100000
namespace Go.Proofs.YtgfbkmclekafbaaGreatDoor
open Go Go.Vc

/-- a plan and steps, as arguments -/
structure PS (w : World) (p : PlanR) (oq : Option Addr) (ol oc : Nat) (steps : List St) (sq : Option Addr) (sl sc : Nat) : Prop where
  wf : p.wf
  ops : Cells w oq (opsCells p.ops)
  nops : ol = p.ops.length
  ole : ol ≤ oc
  omax : oc ≤ 9223372036854775807
  sts : Cells w sq (stepsCells steps)
  nsts : sl = steps.length
  swf : ∀ t ∈ steps, t.wf
  sle : sl ≤ sc
  smax : sc ≤ 9223372036854775807

theorem ld_plan {w : World} {k : Nat} {p : PlanR} {oq : Option Addr} {ol oc : Nat} {K : Int → Int → Int → Option Addr → Nat → Nat → Int → Int → Int → Int → Prop} (h : w.heap[k]? = some (.cells (p.cells oq ol oc).toArray 24 (0, 0)))
    (hK : K p.p0 p.p1 p.p2 oq ol oc p.p4 p.p5 p.p6 p.p7) :
    ld w (⟨k, 0, none⟩ : Addr) fun v0 => asI .i64 v0 fun n0 => ld w (⟨k, 1, none⟩ : Addr) fun v1 => asI .i64 v1 fun n1 => ld w (⟨k, 2, none⟩ : Addr) fun v2 => asI .i64 v2 fun n2 => ld w (⟨k, 3, none⟩ : Addr) fun v3 => asL v3 fun q l c =>
    ld w (⟨k, 4, none⟩ : Addr) fun v4 => asI .i64 v4 fun n4 => ld w (⟨k, 5, none⟩ : Addr) fun v5 => asI .i64 v5 fun n5 => ld w (⟨k, 6, none⟩ : Addr) fun v6 => asI .i64 v6 fun n6 => ld w (⟨k, 7, none⟩ : Addr) fun v7 => asI .i64 v7 fun n7 =>
    K n0 n1 n2 q l c n4 n5 n6 n7 := by
  refine ld_blk h (v := .int .i64 p.p0) rfl ?_
  refine ld_blk h (v := .int .i64 p.p1) rfl ?_
  refine ld_blk h (v := .int .i64 p.p2) rfl ?_
  refine ld_blk h (v := .slice oq ol oc) rfl ?_
  refine ld_blk h (v := .int .i64 p.p4) rfl ?_
  refine ld_blk h (v := .int .i64 p.p5) rfl ?_
  refine ld_blk h (v := .int .i64 p.p6) rfl ?_
  refine ld_blk h (v := .int .i64 p.p7) rfl ?_
  exact hK

/-- what is cut behind a line is the script of fewer steps -/
theorem print_pre {p : PlanR} {steps : List St} {u : List UInt8} (h : printSpec p steps = .ok u) (k : Nat) : ∃ v r, printSpec p (steps.take k) = .ok v ∧ u = v ++ r := by
  obtain ⟨h1, h2, rfl, h4⟩ := print_some h
  have e : ends (linesP p steps) = ends (linesP p (steps.take k)) ++ ends ((steps.drop k).map stepLine) := by
    rw [← ends_append]
    congr 1
    simp only [linesP, List.cons_append, List.append_assoc, ← List.map_append, List.take_append_drop]
  refine ⟨ends (linesP p (steps.take k)), _, ?_, e⟩
  rw [print_ok (by rw [List.length_take]; omega) (fun t ht => h2 t (List.mem_of_mem_take ht)), if_neg]
  rw [e, List.length_append] at h4
  omega

theorem take_cells {w : World} {q : Option Addr} {steps : List St} (h : Cells w q (stepsCells steps)) (k : Nat) : Cells w q (stepsCells (steps.take k)) := by
  have e : stepsCells steps = stepsCells (steps.take k) ++ stepsCells (steps.drop k) := by
    unfold stepsCells
    rw [← List.flatten_append, ← List.map_append, List.take_append_drop]
  rcases h with h | ⟨d, h1, h2, h3⟩
  · left; rw [e] at h; exact (List.append_eq_nil_iff.1 h).1
  · refine .inr ⟨d, h1, h2, fun i hi => ?_⟩
    have hi' : i < (stepsCells steps).length := by rw [e, List.length_append]; omega
    rw [h3 i hi']
    simp only [e, List.getElem_append_left hi]

theorem back_el {p : PlanR} {oq : Option Addr} {ol oc : Nat} {steps : List St} {sq : Option Addr} {sl sc : Nat} {cut : Int} {w : World} {K : Value → World → Prop} {X : List PanicEntry → World → Prop} (hw : Lw w) (hp : PS w p oq ol oc steps sq sl sc)
    (h : ∀ w', Ext w w' → K (.bool true) w') : call P n_repriselaw21_ScriptBack [.agg (p.cells oq ol oc).toArray, .slice sq sl sc, .int .i64 cut] w K X := by
  refine repriselaw21_ScriptBack.call ?_
  unfold repriselaw21_ScriptBack.F
  refine al_el fun k1 w1 hk1 hb1 hx1 hs1 => ?_
  refine awake_el (hw.ext hx1) (fun w2 hx2 => ?_)
  simp only [asB_at]
  refine if_f rfl ?_
  have hb2 : w2.heap[k1]? = some (.cells (p.cells oq ol oc).toArray 24 (0, 0)) := hx2.blk hb1 (fun h => h)
  have hw2 : Ext w w2 := hx1.trans hx2
  refine cnd_i (fun hg => h _ hw2) (fun hg => ?_)
  rw [iGt_f, lenN_el] at hg
  have hle : steps.length ≤ 300 := by rw [← hp.nsts]; omega
  refine ld_plan hb2 ?_
  have hol : p.ops.length ≤ 9223372036854775807 := by rw [← hp.nops]; exact Nat.le_trans hp.ole hp.omax
  refine print_el (p := p) (steps := steps) (hw.ext hw2) hp.wf (hp.ops.ext hw2) hp.nops (hp.sts.ext hw2) hp.nsts hp.swf hol (by omega) (fun w3 hx3 => ?_)
  have hw3 : Ext w w3 := hw2.trans hx3
  cases hpr : printSpec p steps with
  | error e =>
    have he := print_err hpr
    have hne : e ≠ 0 := by omega
    show cnd (iNe e 0) _ _
    refine if_t (by rw [iNe_t]; exact hne) ?_
    intro K1 hK1
    refine if_t (by rw [sEq_t]) ?_
    intro K2 hK2
    have fin : K2 [.bool true] w3 := by
      refine hK2 _ _ fun _ => ?_
      intro K3 hK3
      refine if_t rfl ?_
      exact hK3 _ _ fun _ => hK1 _ _ fun _ => h w3 hw3
    refine cnd_i (fun _ => fin) (fun h1 => ?_)
    rw [iEq_f] at h1
    by_cases h2 : e = 1
    · rw [show iEq e 1 = true from by rw [iEq_t]; exact h2]; exact fin
    · rw [show iEq e 1 = false from by rw [iEq_f]; exact h2]
      refine hK2 _ _ fun _ => ?_
      intro K3 hK3
      refine if_f rfl ?_
      rw [show iEq e 6 = true from by rw [iEq_t]; omega]
      exact hK3 _ _ fun _ => hK1 _ _ fun _ => h w3 hw3
  | ok u =>
    obtain ⟨z, hz⟩ : ∃ z : Int, z = 0 := ⟨0, rfl⟩
    rw [show printV (.ok u) = .tuple #[.string ⟨u.toArray⟩, .int .i64 z] from by rw [hz]; rfl]
    show cnd (iNe z 0) _ _
    refine if_f (by rw [iNe_f]; exact hz) ?_
    obtain ⟨g1, g2, g3, g4⟩ := print_some hpr
    have hpp := parse_print hp.wf hp.swf hpr
    have hu : (⟨u.toArray⟩ : ByteArray).size = u.length := by rw [size_len]
    refine parseR_el (R := ⟨p, steps, 0, 0⟩) (hw.ext hw3) (by rw [hu]; omega) hpp (fun oq' ol' oc' sq' sl' sc' w4 hr => ?_)
    refine al_el fun k2 w5 hk2 hb5 hx5 hs5 => ?_
    refine st_el hb5 (by simp) fun w6 h6 hu6 hs6 => ?_
    have hx6 : Ext w4 w6 := Ext.upd hx5 hu6 (fun i hi => by omega)
    have h6' : w6.heap[k2]? = some (.cells (p.cells oq' ol' oc').toArray 24 (0, 0)) := h6
    have hw6 : Ext w w6 := (hw3.trans hr.ext).trans hx6
    have hb6 : w6.heap[k1]? = some (.cells (p.cells oq ol oc).toArray 24 (0, 0)) := ((hx3.trans hr.ext).trans hx6).blk hb2 (fun h => h)
    intro K4 hK4
    refine if_f rfl ?_
    refine hK4 _ _ fun _ => ?_
    intro K5 hK5
    refine if_f rfl ?_
    refine ld_plan hb6 ?_
    refine ld_plan h6' ?_
    refine plans_el (p := p) (r := p) (hp.ops.ext hw6) (hr.cellsO.ext hx6) hp.nops hr.nops (by
      have : p.ops.length ≤ (ends (linesP p steps)).length := by
        have h3 : ∀ ls : List (List UInt8), ls.length ≤ (ends ls).length := by
          intro ls
          induction ls with
          | nil => simp
          | cons x t ih => rw [ends_cons]; simp only [List.length_cons, List.length_append]; omega
        have := h3 (linesP p steps)
        simp only [linesP, List.length_cons, List.length_append, List.length_map] at this ⊢
        omega
      rw [← g3] at this
      omega) (fun b w7 hb hx7 => ?_)
    obtain rfl : b = true := hb.2 rfl
    have hw7 : Ext w w7 := hw6.trans hx7
    refine hK5 _ _ fun _ => ?_
    intro K6 hK6
    refine if_f rfl ?_
    refine same_el (l := steps) (m := steps) (hr.cellsS.ext (hx6.trans hx7)) (hp.sts.ext hw7) hr.nsteps hp.nsts (by omega) (fun b w8 hb hx8 => ?_)
    obtain rfl : b = true := hb.2 rfl
    have hw8 : Ext w w8 := hw7.trans hx8
    refine hK6 _ _ fun _ => ?_
    refine if_f rfl ?_
    have e1 : IntKind.wrap .u64 (iAdd .i64 (lenN sl) 1) = ((steps.length + 1 : Nat) : Int) := by
      rw [lenN_el, hp.nsts, iAdd_i64 (by omega) (by omega), wrap_u64 (by omega) (by omega)]; omega
    rw [e1]
    refine ⟨by unfold nz; omega, fun w9 hw9 => ?_⟩
    subst hw9
    have hb9 : w8.drew.heap[k1]? = some (.cells (p.cells oq ol oc).toArray 24 (0, 0)) := (hx7.trans hx8).blk hb6 (fun h => h)
    have hw9 : Ext w w8.drew := hw8.trans Upd.drew
    refine ld_plan hb9 ?_
    obtain ⟨k, hk, hkl⟩ : ∃ k : Nat, IntKind.wrap .i64 (iRem (IntKind.wrap .u64 cut) ((steps.length + 1 : Nat) : Int)) = (k : Int) ∧ k ≤ steps.length := by
      have h0 : 0 ≤ IntKind.wrap .u64 cut := by rw [IntKind.wrap_u64]; omega
      obtain ⟨m, hm⟩ := Int.eq_ofNat_of_zero_le h0
      refine ⟨m % (steps.length + 1), ?_, by have := Nat.mod_lt m (show steps.length + 1 > 0 by omega); omega⟩
      rw [hm]
      unfold iRem
      have e : Int.tmod (m : Int) ((steps.length + 1 : Nat) : Int) = ((m % (steps.length + 1) : Nat) : Int) := (Int.ofNat_tmod m (steps.length + 1)).symm
      rw [e]
      have := Nat.mod_lt m (show steps.length + 1 > 0 by omega)
      rw [IntKind.wrap_i64]; omega
    rw [hk]
    have hsl := hp.sle
    refine ⟨⟨by omega, by rw [hp.nsts] at hsl; omega⟩, ?_⟩
    obtain ⟨v, r, hv, huv⟩ := print_pre hpr k
    have ek : (steps.take k).length = k := by rw [List.length_take]; omega
    refine print_el (p := p) (steps := steps.take k) (sl := k) (sc := sc) (hw.ext hw9) hp.wf (hp.ops.ext hw9) hp.nops (take_cells (hp.sts.ext hw9) k) ek.symm (fun t ht => hp.swf t (List.mem_of_mem_take ht)) hol (by omega) (fun w10 hx10 => ?_)
    rw [hv]
    have hw10 : Ext w w10 := hw9.trans hx10
    intro K7 hK7
    refine if_t rfl ?_
    have hvs : (⟨v.toArray⟩ : ByteArray).size = v.length := by rw [size_len]
    have hul : v.length ≤ u.length := by rw [huv, List.length_append]; omega
    have e2 : iLe (lenN (ByteArray.size ⟨v.toArray⟩)) (lenN (ByteArray.size ⟨u.toArray⟩)) = true := by rw [iLe_t, lenN_el, lenN_el, hvs, hu]; omega
    show K7 [.bool (iLe (lenN (ByteArray.size ⟨v.toArray⟩)) (lenN (ByteArray.size ⟨u.toArray⟩)))] w10
    rw [e2]
    refine hK7 _ _ fun _ => ?_
    intro K8 hK8
    refine if_t rfl ?_
    have e3 : lenN (ByteArray.size ⟨v.toArray⟩) = ((v.length : Nat) : Int) := by rw [lenN_el, hvs]
    show inC (lenN (ByteArray.size ⟨v.toArray⟩)) (ByteArray.size ⟨u.toArray⟩) ∧ K8 [.bool (sEq (cutS ⟨u.toArray⟩ 0 (Int.toNat (lenN (ByteArray.size ⟨v.toArray⟩)))) ⟨v.toArray⟩)] w10
    refine ⟨⟨by rw [e3]; omega, by rw [e3, hu]; omega⟩, ?_⟩
    have e4 : sEq (cutS ⟨u.toArray⟩ 0 (Int.toNat (lenN (ByteArray.size ⟨v.toArray⟩)))) ⟨v.toArray⟩ = true := by
      rw [sEq_t, e3]
      apply ByteArray.ext
      apply Array.ext'
      simp only [cutS, ByteArray.data_extract, Array.toList_extract, Int.toNat_natCast]
      rw [huv]
      simp [List.extract]
    rw [e4]
    exact hK8 _ _ fun _ => h w10 hw10
end Go.Proofs.YtgfbkmclekafbaaGreatDoor
