/- A region that draws its order, by a check that the kernel carries out; a function's call, out of its body's reading. -/
import Derived.Test.YtgfbkmclekafbaaGreatDoorQVc12
set_option linter.unusedVariables false
set_option linter.unusedSimpArgs false
set_option linter.unnecessarySimpa false
namespace Go.Vc
open Go
variable {P : Program}

def ancOf (ops : Array Oper) : Nat → Nat → Bool := let b := (Region.before ops).toList; fun k i => (b.getD k 0).testBit i
def ownChk (n : Nat) (ops : Array Oper) : Bool := ops.toList.all fun o => fits n o.dst && (!isLoad o || o.dst.isSome) && (match o.dst with | some d => !(o.looksAt ops).contains d | none => true)
def drawAll (n : Nat) (d : Bool) (ops : Array Oper) (r : RI) : Bool := !d || (drawChk ops (ancOf ops) (r.tree .nil) && ownChk n ops && r.chk n ops)

theorem stt_of {ops : Array Oper} {anc : Nat → Nat → Bool} {n : Nat} {t : Tr} (h : drawChk ops anc t = true) (ho : ownChk n ops = true) : Stt ops anc n := by
  simp only [drawChk, Bool.and_eq_true, ancOk, List.all_eq_true, List.mem_range] at h
  obtain ⟨⟨h1, h2⟩, h6⟩ := h
  simp only [ownChk, List.all_eq_true, Bool.and_eq_true] at ho
  have hlt : ∀ {k : Nat} {o : Oper}, ops[k]? = some o → k < ops.size := fun h => (Array.getElem?_eq_some_iff.1 h).1
  have hmem : ∀ {k : Nat} {o : Oper}, ops[k]? = some o → o ∈ ops.toList := fun h => by
    simpa using Array.mem_of_getElem? h
  refine ⟨?_, ?_, Region.noSelect_spec h6, ?_, ?_, ?_⟩
  · intro k o e hk he hb
    have := h1 k (hlt hk)
    rw [hk] at this
    simp only [Bool.and_eq_true, Array.all_eq_true_iff_forall_mem] at this
    have := this.1 e he
    rw [hb] at this
    simpa using this
  · intro k o i hk hi ha
    have := h1 k (hlt hk)
    rw [hk] at this
    simp only [Bool.and_eq_true, List.all_eq_true, List.mem_range] at this
    have := this.2 i hi
    rw [ha] at this
    simp only [Bool.not_true, Bool.false_or] at this
    rw [← Array.any_toList, List.any_eq_true] at this
    obtain ⟨e, he, hh⟩ := this
    have he : e ∈ o.after := by simpa using he
    refine ⟨e, he, ?_⟩
    simp only [Bool.and_eq_true, Bool.or_eq_true, beq_iff_eq] at hh
    exact hh
  · intro k o hk; exact (ho o (hmem hk)).1.1
  · intro k o hk hl
    have := (ho o (hmem hk)).1.2
    rw [hl] at this
    simp only [Bool.not_true, Bool.false_or] at this
    exact Option.isSome_iff_exists.1 this
  · intro k o d hk hd
    have := (ho o (hmem hk)).2
    rw [hd] at this
    simpa using this
theorem mem_dsts {ops : Array Oper} : ∀ {l : List Nat} {t : Nat}, t ∈ dsts ops l ↔ ∃ i ∈ l, (ops[i]?).bind (·.dst) = some t
  | [], t => by simp [dsts]
  | i :: r, t => by
    simp only [dsts]
    cases hb : (ops[i]?).bind (·.dst) with
    | none => simp only []; rw [mem_dsts]; simp [hb]
    | some d => simp only [List.mem_cons]; rw [mem_dsts]; simp [hb, eq_comm]
theorem drawOk_of (hP : Plain P) (hm : P.follows .mixedOrders = true) {n : Nat} {d : Bool} {ops : Array Oper} {r : RI} (h : drawAll n d ops r = true) (hd : d = true) : DrawOk P n ops r := by
  subst hd
  simp only [drawAll, Bool.not_true, Bool.false_or, Bool.and_eq_true] at h
  obtain ⟨⟨h1, h2⟩, h3⟩ := h
  have hst := stt_of h1 h2
  simp only [drawChk, Bool.and_eq_true] at h1
  obtain ⟨⟨g1, g2⟩, g6⟩ := h1
  intro Q X D id a w K hX hn hD h hK
  refine (wpIn_wide (n := 0)).1 (wpIn_region_any hm ?_)
  have hlt : ∀ t i, (ops[i]?).bind (·.dst) = some t → i < ops.size := by
    intro t i h
    cases ho : ops[i]? with
    | none => rw [ho] at h; simp at h
    | some o => exact (Array.getElem?_eq_some_iff.1 ho).1
  have hc := vcR_wpC (Q := Q) (X := X) (D := D) hP r a w.drew K .nil h3 hn hD h (by
    intro a' w' k1 k2 k3 k4
    refine hK a' w' k1 k2 (fun t ht => k3 t fun hh => ht ?_) k4
    rw [mem_dsts] at hh ⊢
    obtain ⟨i, hi, hb⟩ := hh
    exact ⟨i, List.mem_range.2 (hlt t i hb), hb⟩)
  refine sched (anc := ancOf ops) (n := n) (D := D) hst hX ops.size (r.tree .nil) (List.range ops.size) [] a a (Array.replicate ops.size false) w.drew ?_ (fun i hi => List.mem_range.1 hi) g2 (by simp) hc
  refine ⟨by simp, ?_, by simp, by simp, by simp, by simp, .nil, ?_, hn, hn, hD, hD, fun _ _ => rfl⟩
  · intro i hi
    have : (Array.replicate ops.size false).getD i true = false := by simp [hi]
    rw [this]
    simp [hi]
  · intro k hk hl
    simp [hk] at hl

/-- what the kernel checks of a function's annotation -/
def annOk (fn : Func) (ann : Ann) (c : Code) (args : Nat) : Bool := chk fn.ntmps ann c && draws (drawAll fn.ntmps) ann c && decide (args ≤ fn.ntmps)
/-- what is asked of the program -/
structure GoodP (P : Program) : Prop where
  plain : Plain P
  mixed : P.follows .mixedOrders = true
theorem call_of (hG : GoodP P) {f : FuncId} {fn : Func} {c : Code} {args : List Value} {w : World} {K : Value → World → Prop} {X : List PanicEntry → World → Prop} (hf : P.funcs[f]? = some fn) (hb : fn.body = some c)
    (ann : Ann) (hc : annOk fn ann c args.length = true) (h : vc P ann c (retQ P fn K X) (argE args) w) : call P f args w K X :=
  call_of_vc hG.plain hf hb ann (drawAll fn.ntmps) (fun d ops r h hd => drawOk_of hG.plain hG.mixed h hd) hc h
end Go.Vc
