/- ScriptForth: true. -/
import Derived.Test.YtgfbkmclekafbaaGreatDoorQConD
import Derived.Test.YtgfbkmclekafbaaGreatDoorQRd4
set_option linter.unusedVariables false
set_option linter.unusedSimpArgs false
set_option linter.unnecessarySimpa false
set_option maxRecDepth 100000
namespace Go.Proofs.YtgfbkmclekafbaaGreatDoor
open Go Go.Vc

theorem forth_el {s : ByteArray} {w : World} {K : Value → World → Prop} {X : List PanicEntry → World → Prop} (hw : Lw w) (hs : s.size < 4294967181) (h : ∀ w', Ext w w' → K (.bool true) w') :
    call P n_repriselaw21_ScriptForth [.string s] w K X := by
  refine repriselaw21_ScriptForth.call ?_
  unfold repriselaw21_ScriptForth.F
  refine awake_el hw (fun w1 hx1 => ?_)
  simp only [asB_at]
  refine if_f rfl ?_
  obtain ⟨R, hR⟩ : ∃ R, parseText s.data.toList = R := ⟨_, rfl⟩
  refine parseR_el (hw.ext hx1) hs hR (fun oq ol oc sq sl sc w2 hp => ?_)
  have hno := forth_no (l := s.data.toList)
  have hyes := forth_ok (l := s.data.toList)
  rw [hR] at hno hyes
  refine al_el fun k1 w3 hk1 hb1 hx3 hs3 => ?_
  refine st_el hb1 (by simp) fun w4 h4 hu4 hs4 => ?_
  have hx4 : Ext w2 w4 := Ext.upd hx3 hu4 (fun i hi => by omega)
  have h4' : w4.heap[k1]? = some (.cells (R.p.cells oq ol oc).toArray 24 (0, 0)) := h4
  have hw4 : Ext w w4 := (hx1.trans hp.ext).trans hx4
  have hop := hp.cellsO.ext hx4
  have hst := hp.cellsS.ext hx4
  refine cnd_i (fun hg => ?_) (fun hg => ?_)
  · rw [iNe_t] at hg
    obtain ⟨g1, g2, g3, g4⟩ := hno hg
    refine ld_blk h4' (v := .int .i64 R.p.p0) rfl ?_
    refine ld_blk h4' (v := .int .i64 R.p.p1) rfl ?_
    refine ld_blk h4' (v := .int .i64 R.p.p2) rfl ?_
    refine ld_blk h4' (v := .slice oq ol oc) rfl ?_
    refine ld_blk h4' (v := .int .i64 R.p.p4) rfl ?_
    refine ld_blk h4' (v := .int .i64 R.p.p5) rfl ?_
    refine ld_blk h4' (v := .int .i64 R.p.p6) rfl ?_
    refine ld_blk h4' (v := .int .i64 R.p.p7) rfl ?_
    refine plans_el (p := R.p) (r := zeroPlan) (oq' := none) (ol' := 0) (oc' := 0) hop (.inl rfl) hp.nops rfl (by rw [g1]; decide) (fun b w5 hb hx5 => ?_)
    obtain rfl : b = true := hb.2 g1
    intro K1 hK1
    refine if_t rfl ?_
    have e1 : iEq (lenN sl) 0 = true := by rw [iEq_t, lenN_el, hp.nsteps, g2]; rfl
    rw [e1]
    refine hK1 _ _ fun _ => ?_
    intro K2 hK2
    refine if_t rfl ?_
    have e2 : iGe (R.at_ : Int) 0 = true := by rw [iGe_t]; omega
    rw [e2]
    refine hK2 _ _ fun _ => ?_
    intro K3 hK3
    refine if_t rfl ?_
    have e3 : (iEq (R.at_ : Int) 0 == iEq R.e 6) = true := by
      rw [beq_iff_eq, Bool.eq_iff_iff, iEq_t, iEq_t, ← g3]; omega
    rw [e3]
    refine hK3 _ _ fun _ => ?_
    intro K4 hK4
    refine if_t rfl ?_
    have e4 : (iEq R.e 6 == iGt (lenN (ByteArray.size s)) 262144) = true := by
      rw [beq_iff_eq, Bool.eq_iff_iff, iEq_t, iGt_t, lenN_el, g4, size_len]; omega
    rw [e4]
    refine hK4 _ _ fun _ => ?_
    exact h w5 (hw4.trans hx5)
  · rw [iNe_f] at hg
    obtain ⟨g1, g2, g3, g4, g5⟩ := hyes hg
    refine ld_blk h4' (v := .int .i64 R.p.p0) rfl ?_
    refine ld_blk h4' (v := .int .i64 R.p.p1) rfl ?_
    refine ld_blk h4' (v := .int .i64 R.p.p2) rfl ?_
    refine ld_blk h4' (v := .slice oq ol oc) rfl ?_
    refine ld_blk h4' (v := .int .i64 R.p.p4) rfl ?_
    refine ld_blk h4' (v := .int .i64 R.p.p5) rfl ?_
    refine ld_blk h4' (v := .int .i64 R.p.p6) rfl ?_
    refine ld_blk h4' (v := .int .i64 R.p.p7) rfl ?_
    have hol : R.p.ops.length < 4294967296 := by
      have h1 := hp.ops.le
      have h2 : (ends (linesP R.p R.steps)).length = (bareF [] [] s.data.toList).length := by rw [g5]
      have h3 : ∀ ls : List (List UInt8), ls.length ≤ (ends ls).length := by
        intro ls
        induction ls with
        | nil => simp
        | cons x t ih => rw [ends_cons]; simp only [List.length_cons, List.length_append]; omega
      have h4 := h3 (linesP R.p R.steps)
      have h5 : ∀ (l cur : List UInt8), (ends (kept (cutAt 10 cur l))).length ≤ cur.length + l.length + 1 := by
        intro l
        induction l with
        | nil => intro cur; rw [cutAt]; by_cases hk : skipL cur = true <;> simp [kept, hk, ends]
        | cons x t ih =>
          intro cur
          rw [cutAt]
          split
          · have := ih []
            by_cases hk : skipL cur = true <;> simp [kept, hk, ends] at this ⊢ <;> omega
          · have := ih (cur ++ [x])
            simp only [List.length_append, List.length_cons, List.length_nil] at this ⊢; omega
      have h6 := h5 s.data.toList []
      rw [bare_eq] at h2
      simp only [List.nil_append, List.length_nil, Nat.zero_add] at h2 h6
      have h7 := size_len s
      have h8 : (linesP R.p R.steps).length = 1 + (R.p.ops.length + R.steps.length) := by simp [linesP]; omega
      omega
    refine print_el (p := R.p) (steps := R.steps) ((hw.ext hw4)) g2 hop hp.nops hst hp.nsteps (fun t ht => (g3 t ht).2.2.2) (by omega) (by omega) (fun w5 hx5 => ?_)
    rw [print_ok g4 (fun t ht => ⟨(g3 t ht).1, (g3 t ht).2.1, (g3 t ht).2.2.1⟩), g5]
    obtain ⟨want, hwant⟩ : ∃ want, bareF [] [] s.data.toList = want := ⟨_, rfl⟩
    rw [hwant]
    have hfin : Ext w w5 := hw4.trans hx5
    by_cases hbig : 262144 < want.length
    · rw [if_pos hbig]
      refine bare_el (by omega) (fun w6 hx6 => ?_)
      rw [hwant]
      refine if_t (by rw [iGt_t, lenN_el, size_len]; show (262144 : Int) < ((want.length : Nat) : Int); omega) ?_
      intro K5 hK5
      refine if_t rfl ?_
      refine hK5 _ _ fun _ => ?_
      have hse : sEq (bs []) (bs []) = true := by rw [sEq_t]
      show K (.bool (sEq (bs []) (bs []))) w6
      rw [hse]
      exact h w6 (hfin.trans hx6)
    · rw [if_neg hbig]
      refine bare_el (by omega) (fun w6 hx6 => ?_)
      rw [hwant]
      refine if_f (by rw [iGt_f, lenN_el, size_len]; show ((want.length : Nat) : Int) ≤ 262144; omega) ?_
      intro K6 hK6
      refine if_t (by rw [iEq_t, g1]; rfl) ?_
      refine hK6 _ _ fun _ => ?_
      intro K7 hK7
      refine if_t rfl ?_
      have hse : sEq (⟨want.toArray⟩ : ByteArray) ⟨want.toArray⟩ = true := by rw [sEq_t]
      show K7 [.bool (sEq (⟨want.toArray⟩ : ByteArray) ⟨want.toArray⟩)] w6
      rw [hse]
      refine hK7 _ _ fun _ => ?_
      exact h w6 (hfin.trans hx6)
end Go.Proofs.YtgfbkmclekafbaaGreatDoor

/- ScriptMany: true. -/
set_option maxRecDepth 100000
namespace Go.Proofs.YtgfbkmclekafbaaGreatDoor
open Go Go.Vc

def tickLn : List UInt8 := [116, 105, 99, 107, 10]
def headLn : List UInt8 := [112, 108, 97, 110, 32, 49, 32, 49, 32, 49, 32, 50, 32, 52, 32, 50, 32, 56, 10]
def ticks (n : Nat) : List UInt8 := (List.replicate n tickLn).flatten
theorem ticks_len (n : Nat) : (ticks n).length = 5 * n := by
  induction n with
  | zero => rfl
  | succ n ih => rw [ticks, List.replicate_succ, List.flatten_cons, List.length_append]; rw [ticks] at ih; rw [ih]; simp [tickLn]; omega
theorem ticks_succ (n : Nat) : ticks (n + 1) = ticks n ++ tickLn := by
  rw [ticks, List.replicate_succ', List.flatten_append]; simp [ticks]
def manySteps : List St := List.replicate 4096 wt1
theorem many_ends : headLn ++ ticks 4096 = ends (linesP wp0 manySteps) := by
  have h1 : ends (manySteps.map stepLine) = ticks 4096 := by
    rw [manySteps, List.map_replicate, ends, List.map_replicate, wt1_line]; rfl
  unfold linesP
  rw [show wp0.ops = [] from rfl, List.map_nil, List.nil_append, ends_cons, h1, wp0_line]; rfl
theorem many_ok : ∀ t ∈ manySteps, StOk t := by
  intro t ht
  rw [manySteps, List.mem_replicate] at ht
  rw [ht.2]; exact wt_ok wt1 (by simp)
theorem many_len : manySteps.length = 4096 := by rw [manySteps, List.length_replicate]
theorem wp0_wf : wp0.wf := ⟨fun n hn => wp1_wf.nums n hn, fun o ho => by cases ho⟩
theorem many_parse : parseText (headLn ++ ticks 4096) = ⟨wp0, manySteps, 0, 0⟩ := by
  refine parse_print wp0_wf (fun t ht => (many_ok t ht).2.2.2) ?_
  rw [print_ok (by rw [many_len]; exact Nat.le_refl _) (fun t ht => ⟨(many_ok t ht).1, (many_ok t ht).2.1, (many_ok t ht).2.2.1⟩), ← many_ends, if_neg]
  rw [List.length_append, ticks_len]; decide
theorem many_more {x : List UInt8} (hx : (10 : UInt8) ∉ x) (hs : skipL x = false) (hl : x.length ≤ 1000) : parseText (headLn ++ ticks 4096 ++ [10] ++ x ++ [10]) = ⟨zeroPlan, [], 4099, 212⟩ := by
  have hrun := run_lines (p := wp0) (steps := manySteps) wp0_wf (by rw [many_len]; exact Nat.le_refl _) many_ok
  have hcut : cutAt 10 [] (headLn ++ ticks 4096 ++ [10] ++ x ++ [10]) = linesP wp0 manySteps ++ [[], x, []] := by
    rw [many_ends, List.append_assoc, List.append_assoc, cut_ends _ _ (linesP_no10 _ _)]
    congr 1
    rw [List.singleton_append, cutAt, if_pos rfl, cutAt_at x [] [] hx]; simp [cutAt]
  have hlen : (linesP wp0 manySteps).length = 4097 := by simp [linesP, many_len, wp0]
  unfold parseText
  rw [if_neg (by simp only [List.length_append, ticks_len, List.length_cons, List.length_nil, headLn]; omega), hcut, parseL_run _ _ _ _ hrun, hlen]
  have h0 : stepL ⟨wp0, manySteps, true⟩ [] = .ok ⟨wp0, manySteps, true⟩ := rfl
  have h1 : stepL ⟨wp0, manySteps, true⟩ x = .error 212 := by
    unfold stepL
    rw [if_neg (by rw [hs]; decide)]
    obtain ⟨w, args, hb, _⟩ := line_blanks x
    rw [hb]
    unfold lineSpec
    simp only [List.map_cons]
    rw [if_neg (by decide), if_neg, if_neg]
    · rw [many_len]; decide
    · rintro ⟨_, h⟩
      have := many_len
      rw [h] at this; cases this
  rw [parseL, h0]
  simp only
  rw [parseL, h1]

theorem many_print {p : PlanR} : printSpec p (manySteps ++ [wt1]) = .error 212 := by
  unfold printSpec
  rw [if_pos (by rw [List.length_append, many_len]; decide)]
end Go.Proofs.YtgfbkmclekafbaaGreatDoor

/- ScriptBack: true. -/
set_option maxRecDepth 100000
namespace Go.Proofs.YtgfbkmclekafbaaGreatDoor
open Go Go.Vc

/-- a plan and steps, as arguments -/
structure PS (w : World) (p : PlanR) (oq : Option Addr) (ol oc : Nat) (steps : List St) (sq : Option Addr) (sl sc : Nat) : Prop where
  wf : p.wf
  ops : Cells w oq (opsCells p.ops)
  nops : ol = p.ops.length
  ole : ol ≤ oc
  omax : oc ≤ 9223372036854775807
  sts : Cells w sq (stepsCells steps)
  nsts : sl = steps.length
  swf : ∀ t ∈ steps, t.wf
  sle : sl ≤ sc
  smax : sc ≤ 9223372036854775807

theorem ld_plan {w : World} {k : Nat} {p : PlanR} {oq : Option Addr} {ol oc : Nat} {K : Int → Int → Int → Option Addr → Nat → Nat → Int → Int → Int → Int → Prop} (h : w.heap[k]? = some (.cells (p.cells oq ol oc).toArray 24 (0, 0)))
    (hK : K p.p0 p.p1 p.p2 oq ol oc p.p4 p.p5 p.p6 p.p7) :
    ld w (⟨k, 0, none⟩ : Addr) fun v0 => asI .i64 v0 fun n0 => ld w (⟨k, 1, none⟩ : Addr) fun v1 => asI .i64 v1 fun n1 => ld w (⟨k, 2, none⟩ : Addr) fun v2 => asI .i64 v2 fun n2 => ld w (⟨k, 3, none⟩ : Addr) fun v3 => asL v3 fun q l c =>
    ld w (⟨k, 4, none⟩ : Addr) fun v4 => asI .i64 v4 fun n4 => ld w (⟨k, 5, none⟩ : Addr) fun v5 => asI .i64 v5 fun n5 => ld w (⟨k, 6, none⟩ : Addr) fun v6 => asI .i64 v6 fun n6 => ld w (⟨k, 7, none⟩ : Addr) fun v7 => asI .i64 v7 fun n7 =>
    K n0 n1 n2 q l c n4 n5 n6 n7 := by
  refine ld_blk h (v := .int .i64 p.p0) rfl ?_
  refine ld_blk h (v := .int .i64 p.p1) rfl ?_
  refine ld_blk h (v := .int .i64 p.p2) rfl ?_
  refine ld_blk h (v := .slice oq ol oc) rfl ?_
  refine ld_blk h (v := .int .i64 p.p4) rfl ?_
  refine ld_blk h (v := .int .i64 p.p5) rfl ?_
  refine ld_blk h (v := .int .i64 p.p6) rfl ?_
  refine ld_blk h (v := .int .i64 p.p7) rfl ?_
  exact hK

/-- what is cut behind a line is the script of fewer steps -/
theorem print_pre {p : PlanR} {steps : List St} {u : List UInt8} (h : printSpec p steps = .ok u) (k : Nat) : ∃ v r, printSpec p (steps.take k) = .ok v ∧ u = v ++ r := by
  obtain ⟨h1, h2, rfl, h4⟩ := print_some h
  have e : ends (linesP p steps) = ends (linesP p (steps.take k)) ++ ends ((steps.drop k).map stepLine) := by
    rw [← ends_append]
    congr 1
    simp only [linesP, List.cons_append, List.append_assoc, ← List.map_append, List.take_append_drop]
  refine ⟨ends (linesP p (steps.take k)), _, ?_, e⟩
  rw [print_ok (by rw [List.length_take]; omega) (fun t ht => h2 t (List.mem_of_mem_take ht)), if_neg]
  rw [e, List.length_append] at h4
  omega

theorem take_cells {w : World} {q : Option Addr} {steps : List St} (h : Cells w q (stepsCells steps)) (k : Nat) : Cells w q (stepsCells (steps.take k)) := by
  have e : stepsCells steps = stepsCells (steps.take k) ++ stepsCells (steps.drop k) := by
    unfold stepsCells
    rw [← List.flatten_append, ← List.map_append, List.take_append_drop]
  rcases h with h | ⟨d, h1, h2, h3⟩
  · left; rw [e] at h; exact (List.append_eq_nil_iff.1 h).1
  · refine .inr ⟨d, h1, h2, fun i hi => ?_⟩
    have hi' : i < (stepsCells steps).length := by rw [e, List.length_append]; omega
    rw [h3 i hi']
    simp only [e, List.getElem_append_left hi]

theorem back_el {p : PlanR} {oq : Option Addr} {ol oc : Nat} {steps : List St} {sq : Option Addr} {sl sc : Nat} {cut : Int} {w : World} {K : Value → World → Prop} {X : List PanicEntry → World → Prop} (hw : Lw w) (hp : PS w p oq ol oc steps sq sl sc)
    (h : ∀ w', Ext w w' → K (.bool true) w') : call P n_repriselaw21_ScriptBack [.agg (p.cells oq ol oc).toArray, .slice sq sl sc, .int .i64 cut] w K X := by
  refine repriselaw21_ScriptBack.call ?_
  unfold repriselaw21_ScriptBack.F
  refine al_el fun k1 w1 hk1 hb1 hx1 hs1 => ?_
  refine awake_el (hw.ext hx1) (fun w2 hx2 => ?_)
  simp only [asB_at]
  refine if_f rfl ?_
  have hb2 : w2.heap[k1]? = some (.cells (p.cells oq ol oc).toArray 24 (0, 0)) := hx2.blk hb1 (fun h => h)
  have hw2 : Ext w w2 := hx1.trans hx2
  refine cnd_i (fun hg => h _ hw2) (fun hg => ?_)
  rw [iGt_f, lenN_el] at hg
  have hle : steps.length ≤ 300 := by rw [← hp.nsts]; omega
  refine ld_plan hb2 ?_
  have hol : p.ops.length ≤ 9223372036854775807 := by rw [← hp.nops]; exact Nat.le_trans hp.ole hp.omax
  refine print_el (p := p) (steps := steps) (hw.ext hw2) hp.wf (hp.ops.ext hw2) hp.nops (hp.sts.ext hw2) hp.nsts hp.swf hol (by omega) (fun w3 hx3 => ?_)
  have hw3 : Ext w w3 := hw2.trans hx3
  cases hpr : printSpec p steps with
  | error e =>
    have he := print_err hpr
    have hne : e ≠ 0 := by omega
    show cnd (iNe e 0) _ _
    refine if_t (by rw [iNe_t]; exact hne) ?_
    intro K1 hK1
    refine if_t (by rw [sEq_t]) ?_
    intro K2 hK2
    have fin : K2 [.bool true] w3 := by
      refine hK2 _ _ fun _ => ?_
      intro K3 hK3
      refine if_t rfl ?_
      exact hK3 _ _ fun _ => hK1 _ _ fun _ => h w3 hw3
    refine cnd_i (fun _ => fin) (fun h1 => ?_)
    rw [iEq_f] at h1
    by_cases h2 : e = 1
    · rw [show iEq e 1 = true from by rw [iEq_t]; exact h2]; exact fin
    · rw [show iEq e 1 = false from by rw [iEq_f]; exact h2]
      refine hK2 _ _ fun _ => ?_
      intro K3 hK3
      refine if_f rfl ?_
      rw [show iEq e 6 = true from by rw [iEq_t]; omega]
      exact hK3 _ _ fun _ => hK1 _ _ fun _ => h w3 hw3
  | ok u =>
    obtain ⟨z, hz⟩ : ∃ z : Int, z = 0 := ⟨0, rfl⟩
    rw [show printV (.ok u) = .tuple #[.string ⟨u.toArray⟩, .int .i64 z] from by rw [hz]; rfl]
    show cnd (iNe z 0) _ _
    refine if_f (by rw [iNe_f]; exact hz) ?_
    obtain ⟨g1, g2, g3, g4⟩ := print_some hpr
    have hpp := parse_print hp.wf hp.swf hpr
    have hu : (⟨u.toArray⟩ : ByteArray).size = u.length := by rw [size_len]
    refine parseR_el (R := ⟨p, steps, 0, 0⟩) (hw.ext hw3) (by rw [hu]; omega) hpp (fun oq' ol' oc' sq' sl' sc' w4 hr => ?_)
    refine al_el fun k2 w5 hk2 hb5 hx5 hs5 => ?_
    refine st_el hb5 (by simp) fun w6 h6 hu6 hs6 => ?_
    have hx6 : Ext w4 w6 := Ext.upd hx5 hu6 (fun i hi => by omega)
    have h6' : w6.heap[k2]? = some (.cells (p.cells oq' ol' oc').toArray 24 (0, 0)) := h6
    have hw6 : Ext w w6 := (hw3.trans hr.ext).trans hx6
    have hb6 : w6.heap[k1]? = some (.cells (p.cells oq ol oc).toArray 24 (0, 0)) := ((hx3.trans hr.ext).trans hx6).blk hb2 (fun h => h)
    intro K4 hK4
    refine if_f rfl ?_
    refine hK4 _ _ fun _ => ?_
    intro K5 hK5
    refine if_f rfl ?_
    refine ld_plan hb6 ?_
    refine ld_plan h6' ?_
    refine plans_el (p := p) (r := p) (hp.ops.ext hw6) (hr.cellsO.ext hx6) hp.nops hr.nops (by
      have : p.ops.length ≤ (ends (linesP p steps)).length := by
        have h3 : ∀ ls : List (List UInt8), ls.length ≤ (ends ls).length := by
          intro ls
          induction ls with
          | nil => simp
          | cons x t ih => rw [ends_cons]; simp only [List.length_cons, List.length_append]; omega
        have := h3 (linesP p steps)
        simp only [linesP, List.length_cons, List.length_append, List.length_map] at this ⊢
        omega
      rw [← g3] at this
      omega) (fun b w7 hb hx7 => ?_)
    obtain rfl : b = true := hb.2 rfl
    have hw7 : Ext w w7 := hw6.trans hx7
    refine hK5 _ _ fun _ => ?_
    intro K6 hK6
    refine if_f rfl ?_
    refine same_el (l := steps) (m := steps) (hr.cellsS.ext (hx6.trans hx7)) (hp.sts.ext hw7) hr.nsteps hp.nsts (by omega) (fun b w8 hb hx8 => ?_)
    obtain rfl : b = true := hb.2 rfl
    have hw8 : Ext w w8 := hw7.trans hx8
    refine hK6 _ _ fun _ => ?_
    refine if_f rfl ?_
    have e1 : IntKind.wrap .u64 (iAdd .i64 (lenN sl) 1) = ((steps.length + 1 : Nat) : Int) := by
      rw [lenN_el, hp.nsts, iAdd_i64 (by omega) (by omega), wrap_u64 (by omega) (by omega)]; omega
    rw [e1]
    refine ⟨by unfold nz; omega, fun w9 hw9 => ?_⟩
    subst hw9
    have hb9 : w8.drew.heap[k1]? = some (.cells (p.cells oq ol oc).toArray 24 (0, 0)) := (hx7.trans hx8).blk hb6 (fun h => h)
    have hw9 : Ext w w8.drew := hw8.trans Upd.drew
    refine ld_plan hb9 ?_
    obtain ⟨k, hk, hkl⟩ : ∃ k : Nat, IntKind.wrap .i64 (iRem (IntKind.wrap .u64 cut) ((steps.length + 1 : Nat) : Int)) = (k : Int) ∧ k ≤ steps.length := by
      have h0 : 0 ≤ IntKind.wrap .u64 cut := by rw [IntKind.wrap_u64]; omega
      obtain ⟨m, hm⟩ := Int.eq_ofNat_of_zero_le h0
      refine ⟨m % (steps.length + 1), ?_, by have := Nat.mod_lt m (show steps.length + 1 > 0 by omega); omega⟩
      rw [hm]
      unfold iRem
      have e : Int.tmod (m : Int) ((steps.length + 1 : Nat) : Int) = ((m % (steps.length + 1) : Nat) : Int) := (Int.ofNat_tmod m (steps.length + 1)).symm
      rw [e]
      have := Nat.mod_lt m (show steps.length + 1 > 0 by omega)
      rw [IntKind.wrap_i64]; omega
    rw [hk]
    have hsl := hp.sle
    refine ⟨⟨by omega, by rw [hp.nsts] at hsl; omega⟩, ?_⟩
    obtain ⟨v, r, hv, huv⟩ := print_pre hpr k
    have ek : (steps.take k).length = k := by rw [List.length_take]; omega
    refine print_el (p := p) (steps := steps.take k) (sl := k) (sc := sc) (hw.ext hw9) hp.wf (hp.ops.ext hw9) hp.nops (take_cells (hp.sts.ext hw9) k) ek.symm (fun t ht => hp.swf t (List.mem_of_mem_take ht)) hol (by omega) (fun w10 hx10 => ?_)
    rw [hv]
    have hw10 : Ext w w10 := hw9.trans hx10
    intro K7 hK7
    refine if_t rfl ?_
    have hvs : (⟨v.toArray⟩ : ByteArray).size = v.length := by rw [size_len]
    have hul : v.length ≤ u.length := by rw [huv, List.length_append]; omega
    have e2 : iLe (lenN (ByteArray.size ⟨v.toArray⟩)) (lenN (ByteArray.size ⟨u.toArray⟩)) = true := by rw [iLe_t, lenN_el, lenN_el, hvs, hu]; omega
    show K7 [.bool (iLe (lenN (ByteArray.size ⟨v.toArray⟩)) (lenN (ByteArray.size ⟨u.toArray⟩)))] w10
    rw [e2]
    refine hK7 _ _ fun _ => ?_
    intro K8 hK8
    refine if_t rfl ?_
    have e3 : lenN (ByteArray.size ⟨v.toArray⟩) = ((v.length : Nat) : Int) := by rw [lenN_el, hvs]
    show inC (lenN (ByteArray.size ⟨v.toArray⟩)) (ByteArray.size ⟨u.toArray⟩) ∧ K8 [.bool (sEq (cutS ⟨u.toArray⟩ 0 (Int.toNat (lenN (ByteArray.size ⟨v.toArray⟩)))) ⟨v.toArray⟩)] w10
    refine ⟨⟨by rw [e3]; omega, by rw [e3, hu]; omega⟩, ?_⟩
    have e4 : sEq (cutS ⟨u.toArray⟩ 0 (Int.toNat (lenN (ByteArray.size ⟨v.toArray⟩)))) ⟨v.toArray⟩ = true := by
      rw [sEq_t, e3]
      apply ByteArray.ext
      apply Array.ext'
      simp only [cutS, ByteArray.data_extract, Array.toList_extract, Int.toNat_natCast]
      rw [huv]
      simp [List.extract]
    rw [e4]
    exact hK8 _ _ fun _ => h w10 hw10
end Go.Proofs.YtgfbkmclekafbaaGreatDoor

/- ScriptSkips: plain laws; a row of bytes that grows. -/
set_option maxRecDepth 100000
namespace Go.Proofs.YtgfbkmclekafbaaGreatDoor
open Go Go.Vc

/-! a row of bytes, made since w0 -/
structure BR (w0 w : World) (q : Option Addr) (n c : Nat) (l : List UInt8) : Prop where
  row : Row w 5 1 q n c (l.map byteVal)
  len : n = l.length
  new : ∀ x, blkOf q = some x → w0.heap.size ≤ x
  ext : Ext w0 w
theorem BR.nil {w0 w : World} (h : Ext w0 w) : BR w0 w none 0 0 [] := ⟨Row.nil, rfl, by simp [blkOf], h⟩
theorem BR.on {w0 w w' : World} {q : Option Addr} {n c : Nat} {l : List UInt8} (h : BR w0 w q n c l) (hx : Ext w w') : BR w0 w' q n c l := ⟨h.row.ext hx, h.len, h.new, h.ext.trans hx⟩
theorem appB_el {w0 w : World} {q : Option Addr} {n c : Nat} {l : List UInt8} {b : UInt8} {v : Value} {K : Value → World → Prop} {X : List PanicEntry → World → Prop} (h : BR w0 w q n c l) (hv : v = byteVal b) (hl : l.length ≤ 1000000000)
    (hK : ∀ q' n' c' w', BR w0 w' q' n' c' (l ++ [b]) → K (.slice q' n' c') w') : al w (.cells #[v] 5) fun k w1 => runV P (Builtin.append_ #[39, 39] 39 #[.slice q n c, .slice (some ⟨k, 0, none⟩) 1 1]) w1 K X := by
  refine al_el fun k w1 hk hb hx hs => ?_
  obtain ⟨inf, hi', hsize, hby, hz⟩ := info_of (P := P) (e := 5) (size := 1) (bytes := 1) (z := .int .u8 0) (by kernel_rfl) (by kernel_rfl)
  have hnews : Cells w1 (some ⟨k, 0, none⟩) [byteVal b] := .inr ⟨_, rfl, rfl, fun j hj => by
    rw [add_pl]; refine cell_blk hb ?_
    rw [hv, Nat.zero_add, ← Array.getElem?_toList]; exact List.getElem?_eq_getElem hj⟩
  have hn := h.len
  refine append_row (size := 1) (bytes := 1) Go.Proofs.Tryz.underlying39 hi' hz hsize hby rfl (by decide) (h.row.ext hx) (m := 1) rfl hnews (by intro u hu; simp only [List.mem_singleton] at hu; rw [hu]; rfl) (by decide) (by unfold maxLen; omega) (by omega) fun q3 c3 w10 hrow3 hu10 hfr10 => ?_
  refine hK q3 (n + 1) c3 w10 ⟨?_, by rw [List.length_append, hn]; rfl, fun x hx' => ?_, Ext.upd (h.ext.trans hx) hu10 (fun j hj => h.new j hj)⟩
  · rw [List.map_append]; exact hrow3
  · rcases hfr10 x hx' with hq | hq
    · exact h.new x hq
    · have := (h.ext.trans hx).size; omega
theorem appS_el {w0 w : World} {q : Option Addr} {n c : Nat} {l : List UInt8} {s : ByteArray} {K : Value → World → Prop} {X : List PanicEntry → World → Prop} (h : BR w0 w q n c l) (hl : l.length + s.size ≤ 1000000000)
    (hK : ∀ q' n' c' w', BR w0 w' q' n' c' (l ++ s.data.toList) → K (.slice q' n' c') w') : runV P (Builtin.append_ #[39, 9] 39 #[.slice q n c, .string s]) w K X := by
  obtain ⟨inf, hi', hsize, hby, hz⟩ := info_of (P := P) (e := 5) (size := 1) (bytes := 1) (z := .int .u8 0) (by kernel_rfl) (by kernel_rfl)
  have hn := h.len
  have hsz := size_len s
  refine append_str Go.Proofs.Tryz.underlying39 Go.Proofs.Tryz.underlying9 hi' hz hsize hby h.row (by omega) fun q2 c2 w7 hrow2 hu7 hfr7 => ?_
  refine hK q2 (n + s.size) c2 w7 ⟨?_, by rw [List.length_append, hn, hsz], fun x hx' => ?_, Ext.upd h.ext hu7 (fun j hj => h.new j hj)⟩
  · have e : (l ++ s.data.toList).map byteVal = l.map byteVal ++ Lib.strCells s := by rw [Lib.strCells, List.map_append]; rfl
    rw [e]; exact hrow2
  · rcases hfr7 x hx' with hq | hq
    · exact h.new x hq
    · have := h.ext.size; omega

/-! skipped lines, put in behind each line -/
def withC (note : List UInt8) (c : UInt8) : List UInt8 := if c = 10 then c :: ([10, 35] ++ note ++ [10]) else [c]
def withT (note t : List UInt8) : List UInt8 := [35] ++ note ++ [10] ++ t.flatMap (withC note)
def wl (note : List UInt8) (ls : List (List UInt8)) : List (List UInt8) := (35 :: note) :: ls.flatMap fun x => [x, [], 35 :: note]
theorem flat_no {note : List UInt8} : ∀ (x : List UInt8), (10 : UInt8) ∉ x → x.flatMap (withC note) = x
  | [], _ => rfl
  | c :: r, h => by
    simp only [List.mem_cons, not_or] at h
    rw [List.flatMap_cons, flat_no r h.2, withC, if_neg (fun e => h.1 e.symm)]; rfl
theorem flat_ends {note : List UInt8} : ∀ (ls : List (List UInt8)), (∀ x ∈ ls, (10 : UInt8) ∉ x) → (ends ls).flatMap (withC note) = ends (ls.flatMap fun x => [x, [], 35 :: note])
  | [], _ => rfl
  | x :: r, h => by
    rw [ends_cons, List.flatMap_append, flat_no x (h x (by simp)), List.flatMap_cons, flat_ends r (fun y hy => h y (by simp [hy])), List.flatMap_cons, ends_append, withC, if_pos rfl]
    simp [ends]
theorem withT_ends {note : List UInt8} {ls : List (List UInt8)} (h : ∀ x ∈ ls, (10 : UInt8) ∉ x) : withT note (ends ls) = ends (wl note ls) := by
  rw [withT, flat_ends ls h, wl, ends_cons]; simp
theorem wl_len (note : List UInt8) (ls : List (List UInt8)) : (wl note ls).length = 1 + 3 * ls.length := by
  have : ∀ ls : List (List UInt8), (ls.flatMap fun x => [x, [], 35 :: note]).length = 3 * ls.length := by
    intro ls
    induction ls with
    | nil => rfl
    | cons x r ih => rw [List.flatMap_cons, List.length_append, ih]; simp; omega
  rw [wl, List.length_cons, this]; omega
theorem wl_no10 {note : List UInt8} (hn : (10 : UInt8) ∉ note) {ls : List (List UInt8)} (h : ∀ x ∈ ls, (10 : UInt8) ∉ x) : ∀ x ∈ wl note ls, (10 : UInt8) ∉ x := by
  have h35 : (10 : UInt8) ∉ (35 :: note) := by simp only [List.mem_cons, not_or]; exact ⟨by decide, hn⟩
  intro x hx
  simp only [wl, List.mem_cons, List.mem_flatMap, List.not_mem_nil, or_false] at hx
  rcases hx with rfl | ⟨y, hy, rfl | rfl | rfl⟩
  · exact h35
  · exact h _ hy
  · simp
  · exact h35
theorem runL_skip {r : RS} {x : List UInt8} {rest : List (List UInt8)} (h : skipL x = true) : runL r (x :: rest) = runL r rest := by
  rw [runL, stepL, if_pos h]
theorem runL_wl {note : List UInt8} : ∀ (ls : List (List UInt8)) (r : RS), runL r (ls.flatMap fun x => [x, [], 35 :: note]) = runL r ls
  | [], r => rfl
  | x :: rest, r => by
    rw [List.flatMap_cons]
    show runL r (x :: [] :: (35 :: note) :: _) = _
    rw [runL, runL]
    cases hs : stepL r x with
    | error e => rfl
    | ok r' =>
      simp only
      rw [runL_skip rfl, runL_skip rfl]
      exact runL_wl rest r'
theorem count_no {x : List UInt8} (h : (10 : UInt8) ∉ x) : x.count 10 = 0 := List.count_eq_zero.2 h
theorem count_ends : ∀ (ls : List (List UInt8)), (∀ x ∈ ls, (10 : UInt8) ∉ x) → (ends ls).count 10 = ls.length
  | [], _ => rfl
  | x :: r, h => by
    rw [ends_cons, List.count_append, count_no (h x (by simp)), List.count_cons_self, count_ends r (fun y hy => h y (by simp [hy])), List.length_cons]; omega
theorem ends_len {m : Nat} : ∀ (ls : List (List UInt8)), (∀ x ∈ ls, x.length ≤ m) → (ends ls).length ≤ ls.length * (m + 1)
  | [], _ => by simp [ends]
  | x :: r, h => by
    have h1 := h x (by simp)
    have h2 := ends_len r (fun y hy => h y (by simp [hy]))
    rw [ends_cons, List.length_append, List.length_cons, List.length_cons, Nat.succ_mul]; omega
def tock : List UInt8 := [116, 105, 99, 107, 32, 116, 111, 99, 107, 10, 116, 105, 99, 107]
theorem linesP_len {p : PlanR} {steps : List St} (hp : p.wf) (hs : ∀ t ∈ steps, t.wf) : ∀ x ∈ linesP p steps, x.length ≤ 200 := by
  intro x hx
  simp only [linesP, List.mem_cons, List.mem_append, List.mem_map] at hx
  rcases hx with rfl | ⟨o, ho, rfl⟩ | ⟨t, ht, rfl⟩
  · have h1 := numsText_len p.nums hp.nums
    have h2 := congrArg List.length (planText_eq p)
    simp only [planText, List.length_append, List.length_singleton] at h2
    have h3 : planWord.length = 4 := rfl
    have h4 : p.nums.length = 7 := rfl
    omega
  · have h1 := opText_len (hp.ops o ho)
    rw [opText_eq, List.length_append] at h1
    omega
  · have h1 := lineText_len (hs t ht)
    rw [lineText_eq, List.length_append] at h1
    omega

theorem parse_with {p : PlanR} {steps : List St} {note t : List UInt8} (hp : p.wf) (hw : ∀ t ∈ steps, t.wf) (hpr : printSpec p steps = .ok t) (hn : (10 : UInt8) ∉ note) (hnl : note.length ≤ 100) (ho : p.ops.length ≤ 50) (hs : steps.length ≤ 300) :
    (withT note t).length ≤ 200000 ∧ t.count 10 ≤ 1000 ∧ parseText (withT note t) = ⟨p, steps, 0, 0⟩ ∧ parseText (withT note t ++ tock) = ⟨zeroPlan, [], 2 + 3 * t.count 10, 211⟩ ∧ parseText (withT note t ++ planWord) = ⟨zeroPlan, [], 2 + 3 * t.count 10, 210⟩ := by
  obtain ⟨h1, h2, rfl, h4⟩ := print_some hpr
  have hno := linesP_no10 p steps
  have hll : (linesP p steps).length = 1 + (p.ops.length + steps.length) := by simp [linesP]; omega
  have hrun0 := run_lines hp h1 (fun t ht => ⟨(h2 t ht).1, (h2 t ht).2.1, (h2 t ht).2.2, hw t ht⟩)
  have hrun : runL rs0 (wl note (linesP p steps)) = .ok ⟨p, steps, true⟩ := by
    rw [wl, runL_skip rfl, runL_wl]; exact hrun0
  rw [withT_ends hno, count_ends _ hno]
  have hwn := wl_no10 hn hno
  have hlen : (ends (wl note (linesP p steps))).length ≤ 200000 := by
    have h5 : (ends (wl note (linesP p steps))).length ≤ (101 + 1) + (linesP p steps).length * (200 + 1 + 1 + 102) := by
      have : ∀ ls : List (List UInt8), (∀ x ∈ ls, x.length ≤ 200) → (ends (ls.flatMap fun x => [x, [], 35 :: note])).length ≤ ls.length * (200 + 1 + 1 + 102) := by
        intro ls
        induction ls with
        | nil => intro _; simp [ends]
        | cons x r ih =>
          intro h
          have i1 := ih (fun y hy => h y (by simp [hy]))
          have i2 := h x (by simp)
          rw [List.flatMap_cons, ends_append, List.length_append, List.length_cons, Nat.succ_mul]
          have : (ends [x, [], 35 :: note]).length = x.length + note.length + 4 := by simp [ends]; omega
          omega
      have h6 := this (linesP p steps) (linesP_len hp hw)
      rw [wl, ends_cons, List.length_append, List.length_cons, List.length_cons]
      omega
    have h7 : (linesP p steps).length * (200 + 1 + 1 + 102) ≤ 351 * 304 := Nat.mul_le_mul (by omega) (by omega)
    omega
  have cut : ∀ r, cutAt 10 [] (ends (wl note (linesP p steps)) ++ r) = wl note (linesP p steps) ++ cutAt 10 [] r := fun r => cut_ends _ r hwn
  have hb : (0 : Nat) + (wl note (linesP p steps)).length + 1 = 2 + 3 * (linesP p steps).length := by rw [wl_len]; omega
  refine ⟨hlen, by omega, ?_, ?_, ?_⟩
  · unfold parseText
    have := cut []
    rw [List.append_nil] at this
    rw [if_neg (by omega), this, parseL_run _ _ _ _ hrun]
    simp [parseL, cutAt, stepL, skipL]
  · have hc : cutAt 10 [] tock = [[116, 105, 99, 107, 32, 116, 111, 99, 107], [116, 105, 99, 107]] := rfl
    have hs1 : stepL ⟨p, steps, true⟩ [116, 105, 99, 107, 32, 116, 111, 99, 107] = .error 211 := by
      unfold stepL
      rw [if_neg (by decide), blanks_eq]
      have e : cutAt 32 [] (mk [116, 105, 99, 107, 32, 116, 111, 99, 107]).data.toList = [[116, 105, 99, 107], [116, 111, 99, 107]] := rfl
      rw [e]
      unfold lineSpec
      simp only [List.map_cons, List.map_nil, mk_list]
      rw [if_neg (by decide), if_neg (by rintro ⟨hq, _⟩; revert hq; unfold opWord; decide), if_pos (by omega)]
      rfl
    unfold parseText
    rw [if_neg (by rw [List.length_append]; show ¬ (262144 < _ + 14); omega), cut, hc, parseL_run _ _ _ _ hrun, parseL, hs1]
    simp only
    rw [hb]
  · have hc : cutAt 10 [] planWord = [planWord] := rfl
    have hs1 : stepL ⟨p, steps, true⟩ planWord = .error 210 := by
      unfold stepL
      rw [if_neg (by decide), blanks_eq]
      have e : cutAt 32 [] (mk planWord).data.toList = [planWord] := rfl
      rw [e]
      unfold lineSpec
      simp only [List.map_cons, List.map_nil, mk_list]
      rw [if_neg (by decide), if_neg (by rintro ⟨hq, _⟩; revert hq; unfold opWord planWord; decide), if_pos (by omega)]
      rfl
    unfold parseText
    rw [if_neg (by rw [List.length_append]; show ¬ (262144 < _ + 4); omega), cut, hc, parseL_run _ _ _ _ hrun, parseL, hs1]
    simp only
    rw [hb]
end Go.Proofs.YtgfbkmclekafbaaGreatDoor
