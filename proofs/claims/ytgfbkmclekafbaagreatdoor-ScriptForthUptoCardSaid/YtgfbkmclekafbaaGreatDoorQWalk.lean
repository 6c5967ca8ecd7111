/- ScriptForth: true. -/
import Derived.Test.YtgfbkmclekafbaaGreatDoorQConD
set_option linter.unusedVariables false
set_option linter.unusedSimpArgs false
set_option linter.unnecessarySimpa false
set_option maxRecDepth 100000
namespace Go.Proofs.YtgfbkmclekafbaaGreatDoor
open Go Go.Vc

theorem forth_el {s : ByteArray} {w : World} {K : Value → World → Prop} {X : List PanicEntry → World → Prop} (hw : Lw w) (hs : s.size < 4294967181) (h : ∀ w', Ext w w' → K (.bool true) w') :
    call P n_repriselaw21_ScriptForth [.string s] w K X := by
  refine repriselaw21_ScriptForth.call ?_
  unfold repriselaw21_ScriptForth.F
  refine awake_el hw (fun w1 hx1 => ?_)
  simp only [asB_at]
  refine if_f rfl ?_
  obtain ⟨R, hR⟩ : ∃ R, parseText s.data.toList = R := ⟨_, rfl⟩
  refine parseR_el (hw.ext hx1) hs hR (fun oq ol oc sq sl sc w2 hp => ?_)
  have hno := forth_no (l := s.data.toList)
  have hyes := forth_ok (l := s.data.toList)
  rw [hR] at hno hyes
  refine al_el fun k1 w3 hk1 hb1 hx3 hs3 => ?_
  refine st_el hb1 (by simp) fun w4 h4 hu4 hs4 => ?_
  have hx4 : Ext w2 w4 := Ext.upd hx3 hu4 (fun i hi => by omega)
  have h4' : w4.heap[k1]? = some (.cells (R.p.cells oq ol oc).toArray 24 (0, 0)) := h4
  have hw4 : Ext w w4 := (hx1.trans hp.ext).trans hx4
  have hop := hp.cellsO.ext hx4
  have hst := hp.cellsS.ext hx4
  refine cnd_i (fun hg => ?_) (fun hg => ?_)
  · rw [iNe_t] at hg
    obtain ⟨g1, g2, g3, g4⟩ := hno hg
    refine ld_blk h4' (v := .int .i64 R.p.p0) rfl ?_
    refine ld_blk h4' (v := .int .i64 R.p.p1) rfl ?_
    refine ld_blk h4' (v := .int .i64 R.p.p2) rfl ?_
    refine ld_blk h4' (v := .slice oq ol oc) rfl ?_
    refine ld_blk h4' (v := .int .i64 R.p.p4) rfl ?_
    refine ld_blk h4' (v := .int .i64 R.p.p5) rfl ?_
    refine ld_blk h4' (v := .int .i64 R.p.p6) rfl ?_
    refine ld_blk h4' (v := .int .i64 R.p.p7) rfl ?_
    refine plans_el (p := R.p) (r := zeroPlan) (oq' := none) (ol' := 0) (oc' := 0) hop (.inl rfl) hp.nops rfl (by rw [g1]; decide) (fun b w5 hb hx5 => ?_)
    obtain rfl : b = true := hb.2 g1
    intro K1 hK1
    refine if_t rfl ?_
    have e1 : iEq (lenN sl) 0 = true := by rw [iEq_t, lenN_el, hp.nsteps, g2]; rfl
    rw [e1]
    refine hK1 _ _ fun _ => ?_
    intro K2 hK2
    refine if_t rfl ?_
    have e2 : iGe (R.at_ : Int) 0 = true := by rw [iGe_t]; omega
    rw [e2]
    refine hK2 _ _ fun _ => ?_
    intro K3 hK3
    refine if_t rfl ?_
    have e3 : (iEq (R.at_ : Int) 0 == iEq R.e 6) = true := by
      rw [beq_iff_eq, Bool.eq_iff_iff, iEq_t, iEq_t, ← g3]; omega
    rw [e3]
    refine hK3 _ _ fun _ => ?_
    intro K4 hK4
    refine if_t rfl ?_
    have e4 : (iEq R.e 6 == iGt (lenN (ByteArray.size s)) 262144) = true := by
      rw [beq_iff_eq, Bool.eq_iff_iff, iEq_t, iGt_t, lenN_el, g4, size_len]; omega
    rw [e4]
    refine hK4 _ _ fun _ => ?_
    exact h w5 (hw4.trans hx5)
  · rw [iNe_f] at hg
    obtain ⟨g1, g2, g3, g4, g5⟩ := hyes hg
    refine ld_blk h4' (v := .int .i64 R.p.p0) rfl ?_
    refine ld_blk h4' (v := .int .i64 R.p.p1) rfl ?_
    refine ld_blk h4' (v := .int .i64 R.p.p2) rfl ?_
    refine ld_blk h4' (v := .slice oq ol oc) rfl ?_
    refine ld_blk h4' (v := .int .i64 R.p.p4) rfl ?_
    refine ld_blk h4' (v := .int .i64 R.p.p5) rfl ?_
    refine ld_blk h4' (v := .int .i64 R.p.p6) rfl ?_
    refine ld_blk h4' (v := .int .i64 R.p.p7) rfl ?_
    have hol : R.p.ops.length < 4294967296 := by
      have h1 := hp.ops.le
      have h2 : (ends (linesP R.p R.steps)).length = (bareF [] [] s.data.toList).length := by rw [g5]
      have h3 : ∀ ls : List (List UInt8), ls.length ≤ (ends ls).length := by
        intro ls
        induction ls with
        | nil => simp
        | cons x t ih => rw [ends_cons]; simp only [List.length_cons, List.length_append]; omega
      have h4 := h3 (linesP R.p R.steps)
      have h5 : ∀ (l cur : List UInt8), (ends (kept (cutAt 10 cur l))).length ≤ cur.length + l.length + 1 := by
        intro l
        induction l with
        | nil => intro cur; rw [cutAt]; by_cases hk : skipL cur = true <;> simp [kept, hk, ends]
        | cons x t ih =>
          intro cur
          rw [cutAt]
          split
          · have := ih []
            by_cases hk : skipL cur = true <;> simp [kept, hk, ends] at this ⊢ <;> omega
          · have := ih (cur ++ [x])
            simp only [List.length_append, List.length_cons, List.length_nil] at this ⊢; omega
      have h6 := h5 s.data.toList []
      rw [bare_eq] at h2
      simp only [List.nil_append, List.length_nil, Nat.zero_add] at h2 h6
      have h7 := size_len s
      have h8 : (linesP R.p R.steps).length = 1 + (R.p.ops.length + R.steps.length) := by simp [linesP]; omega
      omega
    refine print_el (p := R.p) (steps := R.steps) ((hw.ext hw4)) g2 hop hp.nops hst hp.nsteps (fun t ht => (g3 t ht).2.2.2) hol (by omega) (fun w5 hx5 => ?_)
    rw [print_ok g4 (fun t ht => ⟨(g3 t ht).1, (g3 t ht).2.1, (g3 t ht).2.2.1⟩), g5]
    obtain ⟨want, hwant⟩ : ∃ want, bareF [] [] s.data.toList = want := ⟨_, rfl⟩
    rw [hwant]
    have hfin : Ext w w5 := hw4.trans hx5
    by_cases hbig : 262144 < want.length
    · rw [if_pos hbig]
      refine bare_el (by omega) (fun w6 hx6 => ?_)
      rw [hwant]
      refine if_t (by rw [iGt_t, lenN_el, size_len]; show (262144 : Int) < ((want.length : Nat) : Int); omega) ?_
      intro K5 hK5
      refine if_t rfl ?_
      refine hK5 _ _ fun _ => ?_
      have hse : sEq (bs []) (bs []) = true := by rw [sEq_t]
      show K (.bool (sEq (bs []) (bs []))) w6
      rw [hse]
      exact h w6 (hfin.trans hx6)
    · rw [if_neg hbig]
      refine bare_el (by omega) (fun w6 hx6 => ?_)
      rw [hwant]
      refine if_f (by rw [iGt_f, lenN_el, size_len]; show ((want.length : Nat) : Int) ≤ 262144; omega) ?_
      intro K6 hK6
      refine if_t (by rw [iEq_t, g1]; rfl) ?_
      refine hK6 _ _ fun _ => ?_
      intro K7 hK7
      refine if_t rfl ?_
      have hse : sEq (⟨want.toArray⟩ : ByteArray) ⟨want.toArray⟩ = true := by rw [sEq_t]
      show K7 [.bool (sEq (⟨want.toArray⟩ : ByteArray) ⟨want.toArray⟩)] w6
      rw [hse]
      refine hK7 _ _ fun _ => ?_
      exact h w6 (hfin.trans hx6)
end Go.Proofs.YtgfbkmclekafbaaGreatDoor
