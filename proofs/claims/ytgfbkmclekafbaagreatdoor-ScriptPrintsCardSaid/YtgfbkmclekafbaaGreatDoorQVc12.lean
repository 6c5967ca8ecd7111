/- A region that draws its order: one order stands for all: the proof. -/
import Derived.Test.YtgfbkmclekafbaaGreatDoorQVc11
set_option linter.unusedVariables false
set_option linter.unusedSimpArgs false
set_option linter.unnecessarySimpa false
namespace Go.Vc
open Go
variable {P : Program}

structure Stt (ops : Array Oper) (anc : Nat → Nat → Bool) (n : Nat) : Prop where
  back : ∀ (k : Nat) (o : Oper) (e : Edge), ops[k]? = some o → e ∈ o.after → Region.binds .any e = true → e.on < k
  anc : ∀ (k : Nat) (o : Oper) (i : Nat), ops[k]? = some o → i < ops.size → anc k i = true → ∃ e ∈ o.after, Region.binds .any e = true ∧ (e.on = i ∨ anc e.on i = true)
  sel : ∀ (j : Nat) (o : Oper) cs b, ops[j]? = some o → o.op ≠ .select cs b
  fit : ∀ (k : Nat) (o : Oper), ops[k]? = some o → fits n o.dst = true
  ldst : ∀ (k : Nat) (o : Oper), ops[k]? = some o → isLoad o = true → ∃ d, o.dst = some d
  own : ∀ (k : Nat) (o : Oper) (d : Nat), ops[k]? = some o → o.dst = some d → d ∉ o.looksAt ops

/-- p ahead of q in the order that is gone through -/
def Pr (ops : Array Oper) (anc : Nat → Nat → Bool) (p q : It) : Prop := pairOk ops anc p q = true
theorem Pr_el {ops : Array Oper} {anc : Nat → Nat → Bool} {p q : It} (h : Pr ops anc p q) : ∃ x y, ops[p.i]? = some x ∧ ops[q.i]? = some y ∧ anc p.i q.i = false ∧ p.i ≠ q.i ∧ p.light = true ∧
    (p.light = true → anc q.i p.i = true → q.light = true → ∀ d, y.dst = some d → d ∉ x.looksAt ops ∧ x.dst ≠ some d) ∧
    (p.light = true → anc q.i p.i = false → x.apart ops y = true ∧ (q.light = false → isLoad x = true → p.i ∈ q.keep)) := by
  unfold Pr pairOk at h
  split at h
  · rename_i x y hx hy
    refine ⟨x, y, hx, hy, ?_⟩
    simp only [Bool.and_eq_true, Bool.not_eq_true', bne_iff_ne, ne_eq] at h
    obtain ⟨⟨h1, h2⟩, h3⟩ := h
    have hpl : p.light = true := by
      cases hp : p.light with
      | true => rfl
      | false => rw [hp] at h3; simp at h3
    refine ⟨h1, h2, hpl, ?_, ?_⟩
    · intro hp ha hq d hd
      rw [hp, ha, hq, hd] at h3
      simp at h3
      exact ⟨h3.1, h3.2⟩
    · intro hp ha
      rw [hp, ha] at h3
      simp at h3
      refine ⟨h3.1, fun hq hl => ?_⟩
      rw [hq, hl] at h3
      simpa using h3.2
  · simp at h

structure Inv (P : Program) (ops : Array Oper) (anc : Nat → Nat → Bool) (n : Nat) (D : List Deferred) (S : List Nat) (F : List It) (a0 a : Act) (listed : Array Bool) (w : World) : Prop where
  sz : listed.size = ops.size
  un : ∀ i, i < ops.size → (listed.getD i true = false ↔ (∃ x ∈ F, x.i = i) ∨ i ∈ S)
  lt : ∀ x ∈ F, x.i < ops.size
  fs : ∀ x ∈ F, x.i ∉ S
  li : ∀ x ∈ F, x.light = true
  fl : ∀ x ∈ F, ∀ o, ops[x.i]? = some o →
    (Region.wanted o (yielded ops a.tmps) = false → ∀ d, o.dst = some d → ofAct a d = undef) ∧
    (Region.wanted o (yielded ops a.tmps) = true → ∃ v, (∀ d, o.dst = some d → ofAct a d = v) ∧ (execOp a.eval o).run P w = .ok (.value v) w ∧ (isLoad o = false → ∀ w', (execOp a.eval o).run P w' = .ok (.value v) w'))
  ff : F.Pairwise (fun y x => Pr ops anc x y)
  cl : ∀ k, k < ops.size → listed.getD k true = true → ∀ i, i < ops.size → anc k i = true → listed.getD i true = true
  s0 : a0.tmps.size = n
  s1 : a.tmps.size = n
  d0 : a0.defers = D
  d1 : a.defers = D
  ag : ∀ t, (∀ x ∈ F, ∀ o, ops[x.i]? = some o → o.dst ≠ some t) → ofAct a0 t = ofAct a t

theorem getD_eq {listed : Array Bool} {i : Nat} (h : i < listed.size) : listed.getD i true = listed.getD i false := by simp [h]
theorem act_ext {a0 a : Act} (hs : a0.tmps.size = a.tmps.size) (hd : a0.defers = a.defers) (h : ∀ t, ofAct a0 t = ofAct a t) : a0 = a := by
  cases a0; cases a
  simp only at hs hd
  subst hd
  congr 1
  apply Array.ext hs
  intro i h1 h2
  have := h i
  simpa [ofAct, h1, h2] using this

section
variable {ops : Array Oper} {anc : Nat → Nat → Bool} {n : Nat} {D : List Deferred} {Q : Exit → Act → World → Prop} {X : List PanicEntry → World → Prop}

/-- the forebears of what is ready are listed -/
theorem ready_anc (hst : Stt ops anc n) {listed : Array Bool} (hsz : listed.size = ops.size) (cl : ∀ k, k < ops.size → listed.getD k true = true → ∀ i, i < ops.size → anc k i = true → listed.getD i true = true)
    {j : Nat} (hj : j ∈ Region.ready .any ops listed) : j < ops.size ∧ listed.getD j true = false ∧ ∀ i, i < ops.size → anc j i = true → listed.getD i true = true := by
  rw [mem_ready] at hj
  obtain ⟨h0, o, ho, hall⟩ := hj
  have hlt : j < ops.size := (Array.getElem?_eq_some_iff.1 ho).1
  refine ⟨hlt, h0, fun i hi ha => ?_⟩
  obtain ⟨e, he, hb, h⟩ := hst.anc j o i ho hi ha
  have hon := hst.back j o e ho he hb
  have hle : listed.getD e.on true = true := by rw [getD_eq (by omega)]; exact hall e he hb
  rcases h with rfl | h
  · exact hle
  · exact cl e.on (by omega) hle i hi h

theorem set_un {listed : Array Bool} {j i : Nat} (hj : j < listed.size) : (listed.setIfInBounds j true).getD i true = if i = j then true else listed.getD i true := by
  by_cases h : j = i
  · subst h; simp [hj]
  · rw [getD_set_ne true h, if_neg (Ne.symm h)]

theorem cl_set {listed : Array Bool} (hsz : listed.size = ops.size) (cl : ∀ k, k < ops.size → listed.getD k true = true → ∀ i, i < ops.size → anc k i = true → listed.getD i true = true)
    {j : Nat} (hj : j < ops.size) (h : ∀ i, i < ops.size → anc j i = true → listed.getD i true = true) :
    ∀ k, k < ops.size → (listed.setIfInBounds j true).getD k true = true → ∀ i, i < ops.size → anc k i = true → (listed.setIfInBounds j true).getD i true = true := by
  intro k hk hl i hi ha
  rw [set_un (by omega)] at hl ⊢
  split
  · rfl
  · split at hl
    · rename_i _ he; subst he; exact h i hi ha
    · exact cl k hk hl i hi ha

/-- an operation that is ready looks at nothing that a floating one has yet to write -/
theorem looks_ok (hst : Stt ops anc n) {S : List Nat} {F : List It} {a0 a : Act} {listed : Array Bool} {w : World} (I : Inv P ops anc n D S F a0 a listed w) {x : It} (hx : x ∈ F ∨ ∀ y ∈ F, Pr ops anc y x) {o : Oper} (ho : ops[x.i]? = some o)
    (hr : x.i ∈ Region.ready .any ops listed) : ∀ y ∈ F, y.i ≠ x.i → ∀ oy, ops[y.i]? = some oy → ∀ d, oy.dst = some d → d ∉ o.looksAt ops ∧ o.dst ≠ some d := by
  intro y hy hne oy hoy d hd
  obtain ⟨hlt, hun, hanc⟩ := ready_anc hst I.sz I.cl hr
  have hylt := I.lt y hy
  have hyun : listed.getD y.i true = false := (I.un y.i hylt).2 (.inl ⟨y, hy, rfl⟩)
  have hna : anc x.i y.i = false := by
    cases h : anc x.i y.i with
    | false => rfl
    | true => rw [hanc y.i hylt h] at hyun; simp at hyun
  have first : Pr ops anc y x → d ∉ o.looksAt ops ∧ o.dst ≠ some d := by
    intro h
    obtain ⟨p, q, h1, h2, h3, h4, h5, h6, h7⟩ := Pr_el h
    rw [hoy] at h1; obtain rfl := Option.some.inj h1
    rw [ho] at h2; obtain rfl := Option.some.inj h2
    obtain ⟨ha, _⟩ := h7 (I.li y hy) hna
    obtain ⟨g1, g2, g3⟩ := Oper.apart_spec ha
    exact ⟨g1 d hd, g2 d hd⟩
  have second : Pr ops anc x y → d ∉ o.looksAt ops ∧ o.dst ≠ some d := by
    intro h
    obtain ⟨p, q, h1, h2, h3, h4, hxl, h6, h7⟩ := Pr_el h
    rw [ho] at h1; obtain rfl := Option.some.inj h1
    rw [hoy] at h2; obtain rfl := Option.some.inj h2
    cases hxy : anc y.i x.i with
    | true => exact h6 hxl hxy (I.li y hy) d hd
    | false =>
      obtain ⟨ha, _⟩ := h7 hxl hxy
      obtain ⟨g1, g2, g3⟩ := Oper.apart_spec ha
      exact ⟨g3 d hd, fun hh => g2 d hh hd⟩
  rcases hx with hx | hx
  · have : x ≠ y := fun he => hne (he ▸ rfl)
    have hpw : x ≠ y → Pr ops anc y x ∨ Pr ops anc x y :=
      List.Pairwise.forall_of_forall_of_flip (R := fun a b => a ≠ b → Pr ops anc b a ∨ Pr ops anc a b) (fun z _ hz => absurd rfl hz) (I.ff.imp fun h _ => .inl h) (I.ff.imp fun h _ => .inr h) hx hy
    rcases hpw this with h | h
    · exact first h
    · exact second h
  · exact first (hx y hy)

theorem same_ok (hst : Stt ops anc n) {S : List Nat} {F : List It} {a0 a : Act} {listed : Array Bool} {w : World} (I : Inv P ops anc n D S F a0 a listed w) {x : It} (hx : x ∈ F ∨ ∀ y ∈ F, Pr ops anc y x) {o : Oper} (ho : ops[x.i]? = some o)
    (hr : x.i ∈ Region.ready .any ops listed) : execOp a0.eval o = execOp a.eval o ∧ Region.wanted o (yielded ops a0.tmps) = Region.wanted o (yielded ops a.tmps) := by
  refine same_run hst.sel ho fun t ht => I.ag t fun y hy oy hoy hd => ?_
  by_cases he : y.i = x.i
  · rw [he, ho] at hoy
    obtain rfl := Option.some.inj hoy
    rcases hx with hx | hx
    · exact hst.own _ _ t ho hd ht
    · obtain ⟨_, _, _, _, _, h4, _⟩ := Pr_el (hx y hy)
      exact h4 he
  · exact (looks_ok hst I hx ho hr y hy he oy hoy t hd).1 ht

/-- behind an operation that was ready -/
theorem ag_put {F F' : List It} {a0 a : Act} {o : Oper} {v : Value} {d' : Option Nat} (hf : fits n o.dst = true) (s0 : a0.tmps.size = n) (ag : ∀ t, (∀ x ∈ F, ∀ o, ops[x.i]? = some o → o.dst ≠ some t) → ofAct a0 t = ofAct a t)
    (h : ∀ t, o.dst ≠ some t → (∀ x ∈ F', ∀ o, ops[x.i]? = some o → o.dst ≠ some t) → (∀ x ∈ F, ∀ o, ops[x.i]? = some o → o.dst ≠ some t)) (hv : ∀ d, o.dst = some d → ofAct a d = v) :
    ∀ t, (∀ x ∈ F', ∀ o, ops[x.i]? = some o → o.dst ≠ some t) → ofAct (a0.put o.dst v) t = ofAct a t := by
  intro t ht
  rw [ofAct_putO (s0 ▸ hf)]
  cases hd : o.dst with
  | none => exact ag t (h t (by simp [hd]) ht)
  | some d =>
    simp only [Env.put]
    by_cases he : t = d
    · subst he
      rw [hv t hd]
      simp [Env.set]
    · rw [set_other he]
      exact ag t (h t (by rw [hd]; simp; exact fun hh => he hh.symm) ht)

/-- a floating operation is run -/
theorem float_step (hst : Stt ops anc n) {S : List Nat} {F : List It} {a0 a : Act} {listed : Array Bool} {w : World} {fuel : Nat} (I : Inv P ops anc n D S F a0 a listed w) {x : It} (hx : x ∈ F)
    (hr : x.i ∈ Region.ready .any ops listed)
    (ih : ∀ (F' : List It) (a0' : Act) (listed' : Array Bool), F'.length < F.length → (∀ y, y ∈ F' → y ∈ F) → Inv P ops anc n D S F' a0' a listed' w → wpAnyIn Fence.wide 0 P .any ops Q fuel listed' a0' w) :
    wpOpIn Fence.wide 0 P ops Q x.i (wpAnyIn Fence.wide 0 P .any ops Q fuel (listed.setIfInBounds x.i true)) a0 w := by
  obtain ⟨hlt, hun, hanc⟩ := ready_anc hst I.sz I.cl hr
  obtain ⟨o, ho⟩ : ∃ o, ops[x.i]? = some o := ⟨ops[x.i], by simp [hlt]⟩
  obtain ⟨he, hw⟩ := same_ok hst I (.inl hx) ho hr
  have hf := hst.fit _ _ ho
  have hnext : ∀ v, (∀ d, o.dst = some d → ofAct a d = v) → wpAnyIn Fence.wide 0 P .any ops Q fuel (listed.setIfInBounds x.i true) (a0.put o.dst v) w := by
    intro v hv
    refine ih (F.filter fun y => y.i != x.i) _ _ ?_ (fun y hy => (List.mem_filter.1 hy).1) ?_
    · refine Nat.lt_of_le_of_ne (List.length_filter_le _ _) fun hh => ?_
      have := List.length_filter_eq_length_iff.1 hh x hx
      simp at this
    · refine ⟨by simpa using I.sz, ?_, ?_, ?_, ?_, ?_, I.ff.sublist List.filter_sublist, cl_set I.sz I.cl hlt hanc, size_put.trans I.s0, I.s1, defers_put.trans I.d0, I.d1, ?_⟩
      · intro i hi
        rw [set_un (by rw [I.sz]; exact hlt)]
        by_cases hxi : i = x.i
        · subst hxi
          simp only [if_true, Bool.true_eq_false, false_iff, not_or, not_exists, not_and]
          refine ⟨fun y hy hyi => ?_, I.fs x hx⟩
          simp [hyi] at hy
        · rw [if_neg hxi, I.un i hi]
          constructor
          · rintro (⟨y, hy, hyi⟩ | h)
            · exact .inl ⟨y, by simp [hy]; rw [hyi]; exact hxi, hyi⟩
            · exact .inr h
          · rintro (⟨y, hy, hyi⟩ | h)
            · exact .inl ⟨y, (List.mem_filter.1 hy).1, hyi⟩
            · exact .inr h
      · intro y hy; exact I.lt y (List.mem_filter.1 hy).1
      · intro y hy; exact I.fs y (List.mem_filter.1 hy).1
      · intro y hy; exact I.li y (List.mem_filter.1 hy).1
      · intro y hy; exact I.fl y (List.mem_filter.1 hy).1
      · refine ag_put (d' := none) hf I.s0 I.ag ?_ hv
        intro t ht h y hy oy hoy
        by_cases hyx : y.i = x.i
        · rw [hyx, ho] at hoy; obtain rfl := Option.some.inj hoy; exact ht
        · exact h y (List.mem_filter.2 ⟨hy, by simp [hyx]⟩) oy hoy
  unfold wpOpIn
  simp only [ho, hw]
  obtain ⟨h1, h2⟩ := I.fl x hx o ho
  cases hwa : Region.wanted o (yielded ops a.tmps) with
  | false => simp only [Bool.false_eq_true, if_false]; exact ⟨fun _ _ => trivial, hnext undef (h1 hwa)⟩
  | true =>
    simp only [if_true]
    obtain ⟨v, hv, hrun, _⟩ := h2 hwa
    refine ⟨fun _ _ => trivial, ?_⟩
    rw [show Fence.wide.round = none from rfl, Oper.semAt_none, he, hrun]
    exact hnext v hv

theorem upon_put {o : Oper} {a0 : Act} {K : Value → World → Prop} {next : Act → World → Prop} (hK : ∀ v w', K v w' → next (a0.put o.dst v) w') (hX : ∀ c w', X c w' → Q (.panic c) a0 w')
    {r : Result Next} (h : upon P K X r) : o.uponIn Fence.wide 0 P a0 next Q r := by
  cases r with
  | ok n w' =>
    cases n <;> simp only [upon] at h <;> simp only [Oper.uponIn] <;> first
      | exact hK _ _ h
      | exact h.elim
      | exact ⟨fun hd => by simp [Fence.wide] at hd, callsIn_wide.2 (Calls.mono h (fun e w'' he => by cases e <;> first | exact hK _ _ he | exact hX _ _ he | exact he.elim))⟩
      | exact ⟨fun hd => by simp [Fence.wide] at hd, RoundIn.mono h (fun e w'' he => by cases e <;> first | exact hK _ _ he | exact hX _ _ he | exact he.elim)⟩
  | halt x w' => cases x <;> first | exact hX _ _ h | exact h.elim

/-- what is not listed has one that is ready -/
theorem some_ready (hst : Stt ops anc n) {listed : Array Bool} (hsz : listed.size = ops.size) : ∀ m i, i ≤ m → i < ops.size → listed.getD i true = false → ∃ j, j ∈ Region.ready .any ops listed
  | 0, i, him, hi, hl => by
    obtain rfl : i = 0 := by omega
    refine ⟨0, mem_ready.2 ⟨hl, ops[0], by simp [hi], fun e he hb => ?_⟩⟩
    have := hst.back 0 _ e (by simp [hi]) he hb
    omega
  | m + 1, i, him, hi, hl => by
    by_cases h : ∀ e ∈ (ops[i]).after, Region.binds .any e = true → listed.getD e.on false = true
    · exact ⟨i, mem_ready.2 ⟨hl, ops[i], by simp [hi], h⟩⟩
    · simp only [Classical.not_forall] at h
      obtain ⟨e, he, hb, hn⟩ := h
      have hon := hst.back i _ e (by simp [hi]) he hb
      refine some_ready hst hsz m e.on (by omega) (by omega) ?_
      rw [getD_eq (by omega)]
      simpa using hn

theorem all_Pr {F : List It} {x : It} (h : F.all (fun y => pairOk ops anc y x) = true) : ∀ y ∈ F, Pr ops anc y x := fun y hy => List.all_eq_true.1 h y hy
theorem ok_mono {F F' : List It} (h : ∀ y, y ∈ F' → y ∈ F) : ∀ (t : Tr) {F F' : List It}, (∀ y, y ∈ F' → y ∈ F) → ∀ S, (t.ok ops anc F S = true → t.ok ops anc F' S = true) ∧ (t.okAlt ops anc F S = true → t.okAlt ops anc F' S = true) := by
  intro t
  induction t with
  | nil => intro F F' h S; exact ⟨id, id⟩
  | it x k ih =>
    intro F F' h S
    have hall : F.all (fun y => pairOk ops anc y x) = true → F'.all (fun y => pairOk ops anc y x) = true := fun hh => List.all_eq_true.2 fun y hy => List.all_eq_true.1 hh y (h y hy)
    constructor
    · simp only [Tr.ok, Bool.and_eq_true]
      rintro ⟨⟨h1, h2⟩, h3⟩
      refine ⟨⟨h1, hall h2⟩, ?_⟩
      split at h3
      · rename_i hxl
        rw [if_pos hxl]
        exact (ih (F := x :: F) (F' := x :: F') (fun y hy => by
          rcases List.mem_cons.1 hy with rfl | hy
          · simp
          · simp [h y hy]) _).1 h3
      · rename_i hxl
        rw [if_neg hxl]
        simp only [Bool.and_eq_true] at h3 ⊢
        exact ⟨h3.1, (ih h _).1 h3.2⟩
    · simp only [Tr.okAlt, Bool.and_eq_true]
      rintro ⟨⟨⟨h0, h1⟩, h2⟩, h3⟩
      exact ⟨⟨⟨h0, h1⟩, hall h2⟩, (ih h _).1 h3⟩
  | alt a b iha ihb =>
    intro F F' h S
    simp only [Tr.ok, Tr.okAlt, Bool.and_eq_true]
    exact ⟨fun ⟨⟨h1, h2⟩, h3⟩ => ⟨⟨h1, (iha h S).2 h2⟩, (ihb h S).2 h3⟩, fun ⟨h2, h3⟩ => ⟨(iha h S).2 h2, (ihb h S).2 h3⟩⟩
/-- one of the alternatives -/
theorem pick_alt {F : List It} {S : List Nat} {a : Act} {w : World} {i : Nat} : ∀ (t : Tr), t.okAlt ops anc F S = true → i ∈ t.heads → wpC P ops Q X t a w →
    ∃ x k, x.i = i ∧ x.light = false ∧ i ∈ S ∧ (∀ y ∈ F, Pr ops anc y x) ∧ k.ok ops anc F (S.filter (· != i)) = true ∧ wpC P ops Q X (.it x k) a w
  | .nil, h, hi, _ => by simp [Tr.heads] at hi
  | .it x k, h, hi, hw => by
    simp only [Tr.okAlt, Bool.and_eq_true, Bool.not_eq_true'] at h
    simp only [Tr.heads, List.mem_singleton] at hi
    subst hi
    exact ⟨x, k, rfl, h.1.1.1, by simpa using h.1.1.2, all_Pr h.1.2, h.2, hw⟩
  | .alt c d, h, hi, hw => by
    simp only [Tr.okAlt, Bool.and_eq_true] at h
    simp only [Tr.heads, List.mem_append] at hi
    rcases hi with hi | hi
    · exact pick_alt c h.1 hi hw.1
    · exact pick_alt d h.2 hi hw.2
theorem len_filter {S : List Nat} {i : Nat} (h : i ∈ S) : (S.filter (· != i)).length < S.length := by
  refine Nat.lt_of_le_of_ne (List.length_filter_le _ _) fun hh => ?_
  have := List.length_filter_eq_length_iff.1 hh i h
  simp at this

/-- one that acts, ready, is run -/
theorem main_step (hst : Stt ops anc n) (hXQ : ∀ c a w, a.tmps.size = n → a.defers = D → X c w → Q (.panic c) a w) {S : List Nat} {F : List It} {a0 a : Act} {listed : Array Bool} {w : World} {fuel : Nat} (I : Inv P ops anc n D S F a0 a listed w)
    {x : It} {k : Tr} (hxl : x.light = false) (hxS : x.i ∈ S) (hpr : ∀ y ∈ F, Pr ops anc y x) (hok : k.ok ops anc F (S.filter (· != x.i)) = true) (hw : wpC P ops Q X (.it x k) a w) (hr : x.i ∈ Region.ready .any ops listed)
    (ih : ∀ (a0' a' : Act) (listed' : Array Bool) (w' : World), Inv P ops anc n D (S.filter (· != x.i)) F a0' a' listed' w' → wpC P ops Q X k a' w' → wpAnyIn Fence.wide 0 P .any ops Q fuel listed' a0' w') :
    wpOpIn Fence.wide 0 P ops Q x.i (wpAnyIn Fence.wide 0 P .any ops Q fuel (listed.setIfInBounds x.i true)) a0 w := by
  obtain ⟨hlt, hun, hanc⟩ := ready_anc hst I.sz I.cl hr
  obtain ⟨o, ho, h⟩ := hw
  have hf := hst.fit _ _ ho
  obtain ⟨he, hwd⟩ := same_ok hst I (x := x) (.inr hpr) ho hr
  have hno : ∀ z ∈ F, ∀ oz, ops[z.i]? = some oz → anc x.i z.i = false ∧ oz.apart ops o = true ∧ (isLoad oz = true → z.i ∈ x.keep) := by
    intro z hz oz hoz
    obtain ⟨p, q, h1, h2, h3, h4, h5, h6, h7⟩ := Pr_el (hpr z hz)
    rw [hoz] at h1; obtain rfl := Option.some.inj h1
    rw [ho] at h2; obtain rfl := Option.some.inj h2
    have hzl := I.lt z hz
    have : anc x.i z.i = false := by
      cases ha : anc x.i z.i with
      | false => rfl
      | true =>
        have := hanc z.i hzl ha
        have h2 := (I.un z.i hzl).2 (.inl ⟨z, hz, rfl⟩)
        rw [this] at h2; simp at h2
    obtain ⟨g1, g2⟩ := h7 (I.li z hz) this
    exact ⟨this, g1, g2 hxl⟩
  have hnext : ∀ v w', ((Region.wanted o (yielded ops a.tmps) = false ∧ w' = w) ∨ (∀ k ∈ x.keep, St P ops k (a.put o.dst v) w')) → wpC P ops Q X k (a.put o.dst v) w' → wpAnyIn Fence.wide 0 P .any ops Q fuel (listed.setIfInBounds x.i true) (a0.put o.dst v) w' := by
    intro v w' hst' hh'
    refine ih _ (a.put o.dst v) _ w' ?_ hh'
    have hsame : ∀ z ∈ F, ∀ oz, ops[z.i]? = some oz → execOp (a.put o.dst v).eval oz = execOp a.eval oz ∧ Region.wanted oz (yielded ops (a.put o.dst v).tmps) = Region.wanted oz (yielded ops a.tmps) ∧ (∀ d, oz.dst = some d → ofAct (a.put o.dst v) d = ofAct a d) := by
      intro z hz oz hoz
      obtain ⟨_, hap, _⟩ := hno z hz oz hoz
      obtain ⟨g1, g2, g3⟩ := Oper.apart_spec hap
      have h1 := same_run hst.sel (a0 := a.put o.dst v) (a := a) hoz fun t ht => by
        rw [ofAct_putO (I.s1 ▸ hf)]
        cases hd : o.dst with
        | none => rfl
        | some d => exact set_other fun he => g3 d hd (he ▸ ht)
      refine ⟨h1.1, h1.2, fun d hd => ?_⟩
      rw [ofAct_putO (I.s1 ▸ hf)]
      cases hdo : o.dst with
      | none => rfl
      | some d' => exact set_other fun he => g2 d hd (he ▸ hdo)
    refine ⟨by simpa using I.sz, ?_, I.lt, ?_, I.li, ?_, I.ff, cl_set I.sz I.cl hlt hanc, size_put.trans I.s0, size_put.trans I.s1, defers_put.trans I.d0, defers_put.trans I.d1, ?_⟩
    · intro i hi
      rw [set_un (by rw [I.sz]; exact hlt)]
      by_cases hxi : i = x.i
      · subst hxi
        simp only [if_true, Bool.true_eq_false, false_iff, not_or, not_exists, not_and]
        refine ⟨fun z hz hzi => ?_, by simp⟩
        obtain ⟨_, _, _, _, _, h4, _⟩ := Pr_el (hpr z hz)
        exact h4 hzi
      · rw [if_neg hxi, I.un i hi]
        simp [hxi]
    · intro z hz hh
      exact I.fs z hz (List.mem_filter.1 hh).1
    · intro z hz oz hoz
      obtain ⟨k1, k2, k3⟩ := hsame z hz oz hoz
      obtain ⟨h1, h2⟩ := I.fl z hz oz hoz
      rw [k1, k2]
      refine ⟨fun hw d hd => (k3 d hd).trans (h1 hw d hd), fun hw => ?_⟩
      obtain ⟨u, hu, hr1, hr2⟩ := h2 hw
      refine ⟨u, fun d hd => (k3 d hd).trans (hu d hd), ?_, hr2⟩
      cases hld : isLoad oz with
      | false => exact hr2 hld w'
      | true =>
        rcases hst' with ⟨_, rfl⟩ | hst'
        · exact hr1
        · have hk := hst' z.i ((hno z hz oz hoz).2.2 hld) oz hoz (by rw [k2]; exact hw)
          cases hdz : oz.dst with
          | none => obtain ⟨d, hd⟩ := hst.ldst _ _ hoz hld; rw [hdz] at hd; simp at hd
          | some d =>
            have := hk d hdz
            rw [k1, k3 d hdz, hu d hdz] at this
            exact this
    · intro t ht
      rw [ofAct_putO (I.s0 ▸ hf), ofAct_putO (I.s1 ▸ hf)]
      cases hd : o.dst with
      | none => exact I.ag t ht
      | some d =>
        simp only [Env.put]
        by_cases he : t = d
        · subst he; simp [Env.set]
        · rw [set_other he, set_other he]; exact I.ag t ht
  unfold wpOpIn
  simp only [ho, hwd]
  rcases h with ⟨hwa, hh⟩ | ⟨hwa, ⟨hyl, _⟩ | ⟨_, hh⟩⟩
  · rw [hwa]
    simp only [Bool.false_eq_true, if_false]
    exact ⟨fun _ _ => trivial, hnext undef w (.inl ⟨hwa, rfl⟩) hh⟩
  · rw [hyl] at hxl; simp at hxl
  · rw [hwa]
    simp only [if_true]
    refine ⟨fun _ _ => trivial, ?_⟩
    rw [show Fence.wide.round = none from rfl, Oper.semAt_none, he]
    exact upon_put (fun v w' hk => hnext v w' (.inr hk.1) hk.2) (fun c w' hc => hXQ c a0 w' I.s0 I.d0 hc) hh

/-- a light one floats -/
theorem light_step (hst : Stt ops anc n) {S : List Nat} {F : List It} {a0 a : Act} {listed : Array Bool} {w : World} (I : Inv P ops anc n D S F a0 a listed w) {y : It} {o : Oper} (ho : ops[y.i]? = some o) (hyl : y.light = true) (hyS : y.i ∈ S)
    (hpr : ∀ z ∈ F, Pr ops anc z y) (v : Value) (hv0 : Region.wanted o (yielded ops a.tmps) = false → v = undef)
    (hv1 : Region.wanted o (yielded ops a.tmps) = true → (execOp a.eval o).run P w = .ok (.value v) w ∧ (isLoad o = false → ∀ w', (execOp a.eval o).run P w' = .ok (.value v) w')) :
    Inv P ops anc n D (S.filter (· != y.i)) (y :: F) a0 (a.put o.dst v) listed w := by
  have hf := hst.fit _ _ ho
  have hylt : y.i < ops.size := (Array.getElem?_eq_some_iff.1 ho).1
  have hoth : ∀ x ∈ F, ∀ ox, ops[x.i]? = some ox → ∀ d, o.dst = some d → d ∉ ox.looksAt ops ∧ ox.dst ≠ some d := by
    intro x hx ox hox d hd
    obtain ⟨p, q, h1, h2, h3, h4, h5, h6, h7⟩ := Pr_el (hpr x hx)
    rw [hox] at h1; obtain rfl := Option.some.inj h1
    rw [ho] at h2; obtain rfl := Option.some.inj h2
    cases hxy : anc y.i x.i with
    | true => exact h6 (I.li x hx) hxy hyl d hd
    | false =>
      obtain ⟨ha, _⟩ := h7 (I.li x hx) hxy
      obtain ⟨g1, g2, g3⟩ := Oper.apart_spec ha
      exact ⟨g3 d hd, fun hh => g2 d hh hd⟩
  have hkeep : ∀ x ∈ F, ∀ ox, ops[x.i]? = some ox → execOp (a.put o.dst v).eval ox = execOp a.eval ox ∧ Region.wanted ox (yielded ops (a.put o.dst v).tmps) = Region.wanted ox (yielded ops a.tmps) := by
    intro x hx ox hox
    refine same_run hst.sel hox fun t ht => ?_
    rw [ofAct_putO (I.s1 ▸ hf)]
    cases hd : o.dst with
    | none => rfl
    | some d => exact set_other fun he => (hoth x hx ox hox d hd).1 (he ▸ ht)
  have hself : execOp (a.put o.dst v).eval o = execOp a.eval o ∧ Region.wanted o (yielded ops (a.put o.dst v).tmps) = Region.wanted o (yielded ops a.tmps) := by
    refine same_run hst.sel ho fun t ht => ?_
    rw [ofAct_putO (I.s1 ▸ hf)]
    cases hd : o.dst with
    | none => rfl
    | some d => exact set_other fun he => hst.own _ _ d ho hd (he ▸ ht)
  have hget : ∀ d, o.dst = some d → ofAct (a.put o.dst v) d = v := by
    intro d hd
    rw [ofAct_putO (I.s1 ▸ hf), hd]
    simp [Env.put, Env.set]
  refine ⟨I.sz, ?_, ?_, ?_, ?_, ?_, List.pairwise_cons.2 ⟨fun x hx => hpr x hx, I.ff⟩, I.cl, I.s0, size_put.trans I.s1, I.d0, defers_put.trans I.d1, ?_⟩
  · intro i hi
    rw [I.un i hi]
    simp only [List.mem_cons, exists_eq_or_imp, List.mem_filter, bne_iff_ne, ne_eq]
    constructor
    · rintro (h | h)
      · exact .inl (.inr h)
      · by_cases hy : i = y.i
        · exact .inl (.inl hy.symm)
        · exact .inr ⟨h, hy⟩
    · rintro ((h | h) | h)
      · exact .inr (h ▸ hyS)
      · exact .inl h
      · exact .inr h.1
  · intro x hx
    rcases List.mem_cons.1 hx with rfl | hx
    · exact hylt
    · exact I.lt x hx
  · intro x hx hh
    rcases List.mem_cons.1 hx with rfl | hx
    · simp at hh
    · exact I.fs x hx (List.mem_filter.1 hh).1
  · intro x hx
    rcases List.mem_cons.1 hx with rfl | hx
    · exact hyl
    · exact I.li x hx
  · intro x hx ox hox
    rcases List.mem_cons.1 hx with rfl | hx
    · rw [ho] at hox
      obtain rfl := Option.some.inj hox
      rw [hself.1, hself.2]
      exact ⟨fun hw d hd => (hget d hd).trans (hv0 hw), fun hw => ⟨v, hget, hv1 hw⟩⟩
    · rw [(hkeep x hx ox hox).1, (hkeep x hx ox hox).2]
      obtain ⟨h1, h2⟩ := I.fl x hx ox hox
      have hd' : ∀ d, ox.dst = some d → ofAct (a.put o.dst v) d = ofAct a d := by
        intro d hd
        rw [ofAct_putO (I.s1 ▸ hf)]
        cases hdo : o.dst with
        | none => rfl
        | some d' => exact set_other fun he => (hoth x hx ox hox d' hdo).2 (he ▸ hd)
      refine ⟨fun hw d hd => (hd' d hd).trans (h1 hw d hd), fun hw => ?_⟩
      obtain ⟨u, hu, hr⟩ := h2 hw
      exact ⟨u, fun d hd => (hd' d hd).trans (hu d hd), hr⟩
  · intro t ht
    rw [ofAct_putO (I.s1 ▸ hf)]
    have h1 := I.ag t (fun x hx => ht x (by simp [hx]))
    have h2 := ht y (by simp) o ho
    rw [h1]
    cases hd : o.dst with
    | none => rfl
    | some d => exact (set_other fun he => h2 (by rw [hd, he])).symm

theorem sched (hst : Stt ops anc n) (hXQ : ∀ c a w, a.tmps.size = n → a.defers = D → X c w → Q (.panic c) a w) : ∀ (fuel : Nat) (t : Tr) (S : List Nat) (F : List It) (a0 a : Act) (listed : Array Bool) (w : World),
    Inv P ops anc n D S F a0 a listed w → (∀ i ∈ S, i < ops.size) → t.ok ops anc F S = true → F.length + S.length ≤ fuel → wpC P ops Q X t a w → wpAnyIn Fence.wide 0 P .any ops Q fuel listed a0 w := by
  intro fuel
  induction fuel with
  | zero =>
    intro t S F a0 a listed w I hSl hok hl h
    have hF : F = [] := List.eq_nil_of_length_eq_zero (by omega)
    have hS : S = [] := List.eq_nil_of_length_eq_zero (by omega)
    subst hF hS
    have hready : Region.ready .any ops listed = [] := by
      cases hr : Region.ready .any ops listed with
      | nil => rfl
      | cons j r =>
        obtain ⟨hlt, hun, _⟩ := ready_anc hst I.sz I.cl (j := j) (by rw [hr]; simp)
        have := (I.un j hlt).1 hun
        simp at this
    have hae : a0 = a := act_ext (I.s0.trans I.s1.symm) (I.d0.trans I.d1.symm) (fun t => I.ag t (by simp))
    refine ⟨hready, ?_⟩
    rw [hae]
    cases t with
    | nil => exact h
    | it x k => simp [Tr.ok] at hok
    | alt c d =>
      exfalso
      have : ∀ t : Tr, t.okAlt ops anc [] [] = true → False := by
        intro t
        induction t with
        | nil => simp [Tr.okAlt]
        | it x k => simp [Tr.okAlt]
        | alt a b iha ihb => simp only [Tr.okAlt, Bool.and_eq_true]; exact fun h => iha h.1
      simp only [Tr.ok, Bool.and_eq_true] at hok
      exact this c hok.1.2
  | succ fuel ih =>
    intro t
    -- where nothing light stands first
    have heads : ∀ (t : Tr) (S : List Nat) (F : List It) (a0 a : Act) (listed : Array Bool) (w : World), Inv P ops anc n D S F a0 a listed w → (∀ i ∈ S, i < ops.size) → F.length + S.length ≤ fuel + 1 → t.ok ops anc F S = true →
        (S = [] → t = .nil) → (S ≠ [] → cover anc S t.heads = true ∧ t.okAlt ops anc F S = true) → wpC P ops Q X t a w → wpAnyIn Fence.wide 0 P .any ops Q (fuel + 1) listed a0 w := by
      intro t S F a0 a listed w I hSl hl hok hnil hcov h
      refine ⟨fun hr => ?_, fun j hj => ?_⟩
      · have hS : S = [] := by
          cases S with
          | nil => rfl
          | cons i r =>
            obtain ⟨j, hj⟩ := some_ready hst I.sz _ i (Nat.le_refl _) (hSl i (by simp)) ((I.un i (hSl i (by simp))).2 (.inr (by simp)))
            rw [hr] at hj; simp at hj
        have hF : F = [] := by
          cases F with
          | nil => rfl
          | cons x r =>
            obtain ⟨j, hj⟩ := some_ready hst I.sz _ x.i (Nat.le_refl _) (I.lt x (by simp)) ((I.un x.i (I.lt x (by simp))).2 (.inl ⟨x, by simp, rfl⟩))
            rw [hr] at hj; simp at hj
        subst hF
        have : a0 = a := act_ext (I.s0.trans I.s1.symm) (I.d0.trans I.d1.symm) (fun t => I.ag t (by simp))
        rw [this]
        rw [hnil hS] at h
        exact h
      · obtain ⟨hlt, hun, hanc⟩ := ready_anc hst I.sz I.cl hj
        rcases (I.un j hlt).1 hun with ⟨x, hx, rfl⟩ | hjS
        · exact float_step hst I hx hj fun F' a0' listed' hF' hsub I' => ih t S F' a0' a listed' w I' hSl ((ok_mono hsub t hsub S).1 hok) (by omega) h
        · obtain ⟨hc, hoa⟩ := hcov (fun he => by rw [he] at hjS; simp at hjS)
          have hjh : j ∈ t.heads := by
            have := List.all_eq_true.1 hc j hjS
            simp only [Bool.or_eq_true, List.any_eq_true] at this
            rcases this with h | ⟨i, hi, ha⟩
            · simpa using h
            · exfalso
              obtain ⟨x, k, rfl, _, hxS, _⟩ := pick_alt t hoa hi h
              have := hanc x.i (hSl _ hxS) ha
              have h2 := (I.un x.i (hSl _ hxS)).2 (.inr hxS)
              rw [this] at h2; simp at h2
          obtain ⟨x, k, rfl, hxl, hxS, hpr, hk, hw⟩ := pick_alt t hoa hjh h
          exact main_step hst hXQ I hxl hxS hpr hk hw hj fun a0' a' listed' w' I' hh =>
            ih k _ F a0' a' listed' w' I' (fun i hi => hSl i (List.mem_filter.1 hi).1) hk (by have := len_filter hxS; omega) hh
    induction t with
    | nil =>
      intro S F a0 a listed w I hSl hok hl h
      have hS : S = [] := by simpa [Tr.ok] using hok
      exact heads .nil S F a0 a listed w I hSl hl hok (fun _ => rfl) (fun hne => absurd hS hne) h
    | alt c d _ _ =>
      intro S F a0 a listed w I hSl hok hl h
      have hok' := hok
      simp only [Tr.ok, Bool.and_eq_true] at hok'
      refine heads (.alt c d) S F a0 a listed w I hSl hl hok (fun he => ?_) (fun _ => ⟨hok'.1.1, by simp only [Tr.okAlt, Bool.and_eq_true]; exact ⟨hok'.1.2, hok'.2⟩⟩) h
      exfalso
      subst he
      have : ∀ (t : Tr) (F : List It), t.okAlt ops anc F [] = true → False := by
        intro t F
        induction t with
        | nil => simp [Tr.okAlt]
        | it x k => simp [Tr.okAlt]
        | alt a b iha ihb => simp only [Tr.okAlt, Bool.and_eq_true]; exact fun h => iha h.1
      exact this c F hok'.1.2
    | it y k ihk =>
      intro S F a0 a listed w I hSl hok hl h
      have hok' := hok
      simp only [Tr.ok, Bool.and_eq_true] at hok'
      obtain ⟨⟨hyS, hpa⟩, hok2⟩ := hok'
      have hyS : y.i ∈ S := by simpa using hyS
      have hpr := all_Pr hpa
      cases hyl : y.light with
      | true =>
        rw [hyl] at hok2
        simp only [if_true] at hok2
        have hgo : ∀ o v, ops[y.i]? = some o → (Region.wanted o (yielded ops a.tmps) = false → v = undef) →
            (Region.wanted o (yielded ops a.tmps) = true → (execOp a.eval o).run P w = .ok (.value v) w ∧ (isLoad o = false → ∀ w', (execOp a.eval o).run P w' = .ok (.value v) w')) →
            wpC P ops Q X k (a.put o.dst v) w → wpAnyIn Fence.wide 0 P .any ops Q (fuel + 1) listed a0 w := fun o v ho hv0 hv1 hh =>
          ihk _ (y :: F) a0 (a.put o.dst v) listed w (light_step hst I ho hyl hyS hpr v hv0 hv1) (fun i hi => hSl i (List.mem_filter.1 hi).1) hok2 (by have := len_filter hyS; simp; omega) hh
        obtain ⟨o, ho, h⟩ := h
        rcases h with ⟨hw, h⟩ | ⟨hw, ⟨_, v, h1, h2, h3⟩ | ⟨hyl', h⟩⟩
        · exact hgo o undef ho (fun _ => rfl) (fun hw' => by rw [hw] at hw'; simp at hw') h
        · exact hgo o v ho (fun hw' => by rw [hw] at hw'; simp at hw') (fun _ => ⟨h1, h2⟩) h3
        · rw [hyl] at hyl'; simp at hyl'
      | false =>
        rw [hyl] at hok2
        simp only [Bool.false_eq_true, if_false, Bool.and_eq_true] at hok2
        refine heads (.it y k) S F a0 a listed w I hSl hl hok (fun he => by rw [he] at hyS; simp at hyS) (fun _ => ⟨hok2.1, ?_⟩) h
        simp only [Tr.okAlt, Bool.and_eq_true, hyl]
        exact ⟨⟨⟨rfl, by simpa using hyS⟩, hpa⟩, hok2.2⟩
end
end Go.Vc
