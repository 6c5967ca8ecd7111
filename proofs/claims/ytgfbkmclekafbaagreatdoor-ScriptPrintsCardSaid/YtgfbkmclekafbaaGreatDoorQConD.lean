/- Plain laws: cut and joined; numbers, keys, floats both ways; lines both ways. -/
import Derived.Test.YtgfbkmclekafbaaGreatDoorQConC
set_option linter.unusedVariables false
set_option linter.unusedSimpArgs false
set_option linter.unnecessarySimpa false
set_option maxRecDepth 100000
namespace Go.Proofs.YtgfbkmclekafbaaGreatDoor
open Go Go.Vc

/-! cut at a byte, and joined -/
theorem cutAt_no {c : UInt8} : ∀ (w cur : List UInt8), c ∉ w → cutAt c cur w = [cur ++ w]
  | [], cur, _ => by simp [cutAt]
  | x :: r, cur, h => by
    simp only [List.mem_cons, not_or] at h
    rw [cutAt, if_neg (fun e => h.1 e.symm), cutAt_no r _ h.2]; simp
theorem cutAt_at {c : UInt8} : ∀ (w cur r : List UInt8), c ∉ w → cutAt c cur (w ++ c :: r) = (cur ++ w) :: cutAt c [] r
  | [], cur, r, _ => by simp [cutAt]
  | x :: t, cur, r, h => by
    simp only [List.mem_cons, not_or] at h
    rw [List.cons_append, cutAt, if_neg (fun e => h.1 e.symm), cutAt_at t _ r h.2]; simp
def tail (c : UInt8) (l : List (List UInt8)) : List UInt8 := (l.map (c :: ·)).flatten
theorem cut_join {c : UInt8} : ∀ (rest : List (List UInt8)) (w : List UInt8), c ∉ w → (∀ a ∈ rest, c ∉ a) → cutAt c [] (w ++ tail c rest) = w :: rest
  | [], w, h, _ => by simp [tail, cutAt_no w [] h]
  | a :: r, w, h, hr => by
    have : w ++ tail c (a :: r) = w ++ c :: (a ++ tail c r) := by simp [tail]
    rw [this, cutAt_at w [] _ h, cut_join r a (hr a (by simp)) (fun b hb => hr b (by simp [hb]))]; rfl
theorem join_cut {c : UInt8} : ∀ (x cur : List UInt8), ∃ w rest, cutAt c cur x = w :: rest ∧ cur ++ x = w ++ tail c rest
  | [], cur => ⟨cur, [], by simp [cutAt], by simp [tail]⟩
  | y :: r, cur => by
    by_cases h : y = c
    · obtain ⟨w, rest, h1, h2⟩ := join_cut (c := c) r []
      refine ⟨cur, w :: rest, by rw [cutAt, if_pos h, h1], ?_⟩
      simp only [tail, List.map_cons, List.flatten_cons, List.nil_append] at h2 ⊢
      rw [h2, h]; simp
    · obtain ⟨w, rest, h1, h2⟩ := join_cut (c := c) r (cur ++ [y])
      exact ⟨w, rest, by rw [cutAt, if_neg h, h1], by rw [← h2]; simp⟩
theorem cutAt_ne {c : UInt8} : ∀ (x cur a : List UInt8), c ∉ cur → a ∈ cutAt c cur x → c ∉ a
  | [], cur, a, hc, h => by simp [cutAt] at h; rw [h]; exact hc
  | y :: r, cur, a, hc, h => by
    rw [cutAt] at h
    split at h
    · rcases List.mem_cons.1 h with rfl | h
      · exact hc
      · exact cutAt_ne r [] a (by simp) h
    · rename_i hy
      exact cutAt_ne r _ a (by simp; exact ⟨hc, fun e => hy e.symm⟩) h

/-! numbers -/
theorem num_some {l : List UInt8} {n : Int} (h : num? l = some n) : Lib.itoa n = l ∧ -9223372036854775808 ≤ n ∧ n ≤ 9223372036854775807 := by
  unfold num? at h
  split at h
  · rename_i m hm
    split at h
    · rename_i hi; simp only [Option.some.injEq] at h; subst h; exact ⟨hi, atoi_range hm⟩
    · cases h
  · cases h
theorem key_some {l : List UInt8} {n : Nat} (h : key? l = some n) : Lib.decDigits n = l ∧ n < 18446744073709551616 := by
  unfold key? at h
  split at h
  · rename_i m hm
    split at h
    · rename_i hi; simp only [Option.some.injEq] at h; subst h; exact ⟨hi, Lib.parseMag_lt hm⟩
    · cases h
  · cases h
theorem dig_back {c : UInt8} (h : hexSet.contains c = true) : dig16 (digVal c) = c ∧ digVal c < 16 := by
  have : ∀ c ∈ hexSet, dig16 (digVal c) = c ∧ digVal c < 16 := by decide
  exact this c (by simpa using h)
theorem hexFrom_back : ∀ (k : Nat) (l : List UInt8), l.length = k → l.all (hexSet.contains ·) = true → hexFrom 0 l < 16 ^ k ∧ hexFill k (hexFrom 0 l) = l := by
  intro k
  induction k with
  | zero => intro l h _; obtain rfl := List.eq_nil_of_length_eq_zero h; simp [hexFrom, hexFill]
  | succ k ih =>
    intro l h ha
    obtain ⟨l', c, rfl⟩ : ∃ l' c, l = l' ++ [c] := by
      rcases List.eq_nil_or_concat l with rfl | ⟨l', c, rfl⟩
      · simp at h
      · exact ⟨l', c, by simp⟩
    simp only [List.length_append, List.length_cons, List.length_nil] at h
    simp only [List.all_append, List.all_cons, List.all_nil, Bool.and_true, Bool.and_eq_true] at ha
    obtain ⟨h1, h2⟩ := ih l' (by omega) ha.1
    obtain ⟨d1, d2⟩ := dig_back ha.2
    have he : hexFrom 0 (l' ++ [c]) = hexFrom 0 l' * 16 + digVal c := by simp [hexFrom]
    rw [he]
    refine ⟨by rw [Nat.pow_succ]; omega, ?_⟩
    rw [hexFill, show (hexFrom 0 l' * 16 + digVal c) / 16 = hexFrom 0 l' from by omega, show (hexFrom 0 l' * 16 + digVal c) % 16 = digVal c from by omega, h2, d1]
theorem float_some {l : List UInt8} {n : Nat} (h : float? l = some n) : hexText n = l ∧ n < 18446744073709551616 := by
  unfold float? at h
  split at h
  · rename_i hc
    simp only [Option.some.injEq] at h; subst h
    obtain ⟨h1, h2⟩ := hexFrom_back 16 l hc.1 hc.2
    exact ⟨h2, by simpa using h1⟩
  · cases h

/-! what is printed holds neither a blank nor a line's end -/
def clean (l : List UInt8) : Prop := (32 : UInt8) ∉ l ∧ (10 : UInt8) ∉ l
theorem clean_of {l : List UInt8} (h : ∀ c ∈ l, c = 45 ∨ 48 ≤ c.toNat) : clean l := by
  constructor
  · intro hm
    rcases h _ hm with h | h
    · cases h
    · exact absurd h (by decide)
  · intro hm
    rcases h _ hm with h | h
    · cases h
    · exact absurd h (by decide)
theorem dec_mem : ∀ (n : Nat) (c : UInt8), c ∈ Lib.decDigits n → 48 ≤ c.toNat ∧ c.toNat ≤ 57 := by
  intro n
  induction n using Nat.strongRecOn with
  | _ n ih =>
    intro c hc
    rw [Lib.decDigits] at hc
    split at hc
    · rename_i h
      simp only [List.mem_singleton] at hc
      rw [hc, digit_toNat n h]; omega
    · rename_i h
      rw [List.mem_append] at hc
      rcases hc with hc | hc
      · exact ih (n / 10) (by omega) c hc
      · simp only [List.mem_singleton] at hc
        rw [hc, digit_toNat (n % 10) (by omega)]; omega
theorem clean_dec (n : Nat) : clean (Lib.decDigits n) := clean_of fun c hc => .inr (dec_mem n c hc).1
theorem clean_itoa (n : Int) : clean (Lib.itoa n) := by
  unfold Lib.itoa
  split
  · refine clean_of fun c hc => ?_
    rcases List.mem_cons.1 hc with rfl | hc
    · exact .inl rfl
    · exact .inr (dec_mem _ c hc).1
  · exact clean_dec _
theorem hexFill_mem : ∀ (k u : Nat) (c : UInt8), c ∈ hexFill k u → 48 ≤ c.toNat
  | 0, u, c, h => by simp [hexFill] at h
  | k + 1, u, c, h => by
    rw [hexFill, List.mem_append] at h
    rcases h with h | h
    · exact hexFill_mem k _ c h
    · simp only [List.mem_singleton] at h
      have : ∀ d : Fin 16, 48 ≤ (dig16 d.val).toNat := by decide
      rw [h]; exact this ⟨u % 16, by omega⟩
theorem clean_hex (n : Nat) : clean (hexText n) := clean_of fun c hc => .inr (hexFill_mem 16 n c hc)
theorem clean_arg (t : St) (c : UInt8) : clean (argText t c) := by
  unfold argText
  split; · exact clean_itoa _
  split; · exact clean_itoa _
  split; · exact clean_dec _
  split; · exact clean_hex _
  exact ⟨by simp, by simp⟩
theorem clean_word (k : Nat) : clean (wordAt k) := by
  unfold wordAt clean; split <;> decide

/-! a line's words -/
def lineOf (w : List UInt8) (args : List (List UInt8)) : List UInt8 := w ++ tail 32 args
theorem blanks_line {w : List UInt8} {args : List (List UInt8)} (hw : clean w) (ha : ∀ a ∈ args, clean a) : blanks (mk (lineOf w args)) = (w :: args).map mk := by
  rw [blanks_eq, mk_list]
  unfold lineOf
  rw [cut_join args w hw.1 (fun a h => (ha a h).1)]
theorem line_blanks (x : List UInt8) : ∃ w args, blanks (mk x) = (w :: args).map mk ∧ x = lineOf w args := by
  obtain ⟨w, rest, h1, h2⟩ := join_cut (c := 32) x []
  exact ⟨w, rest, by rw [blanks_eq, mk_list, h1], by simpa [lineOf] using h2⟩
theorem tail_clean {args : List (List UInt8)} (ha : ∀ a ∈ args, (10 : UInt8) ∉ a) : (10 : UInt8) ∉ tail 32 args := by
  intro h
  simp only [tail, List.mem_flatten, List.mem_map] at h
  obtain ⟨l, ⟨a, ha1, rfl⟩, hl⟩ := h
  rcases List.mem_cons.1 hl with h | h
  · cases h
  · exact ha a ha1 h
theorem line_no10 {w : List UInt8} {args : List (List UInt8)} (hw : clean w) (ha : ∀ a ∈ args, clean a) : (10 : UInt8) ∉ lineOf w args := by
  unfold lineOf
  rw [List.mem_append]
  rintro (h | h)
  · exact hw.2 h
  · exact tail_clean (fun a h => (ha a h).2) h

/-! the plan's line -/
def planArgs (p : PlanR) : List (List UInt8) := p.nums.map Lib.itoa
def planLine (p : PlanR) : List UInt8 := lineOf planWord (planArgs p)
theorem planText_eq (p : PlanR) : planText p = planLine p ++ [10] := by
  unfold planText planLine lineOf planArgs numsText tail
  rw [List.map_map]; rfl
theorem setNums_back {p q : PlanR} (hp : ∀ n ∈ p.nums, -9223372036854775808 ≤ n ∧ n ≤ 9223372036854775807) : setNums q 0 ((planArgs p).map mk) = some { p with ops := q.ops } := by
  have h : ∀ n, n ∈ p.nums → num? (Lib.itoa n) = some n := fun n hn => num_itoa (hp n hn).1 (hp n hn).2
  simp only [planArgs, PlanR.nums, List.map_cons, List.map_nil, setNums, mk_list]
  rw [h p.p0 (by simp [PlanR.nums]), h p.p1 (by simp [PlanR.nums]), h p.p2 (by simp [PlanR.nums]), h p.p4 (by simp [PlanR.nums]), h p.p5 (by simp [PlanR.nums]), h p.p6 (by simp [PlanR.nums]), h p.p7 (by simp [PlanR.nums])]
  rfl
theorem planWord_clean : clean planWord := by unfold clean planWord; decide
theorem opWord_clean : clean opWord := by unfold clean opWord; decide
theorem lineSpec_plan {p : PlanR} {r : RS} (hr : r.began = false) (hp : ∀ n ∈ p.nums, -9223372036854775808 ≤ n ∧ n ≤ 9223372036854775807) :
    lineSpec r (blanks (mk (planLine p))) = .ok { r with p := { p with ops := r.p.ops }, began := true } := by
  unfold planLine
  rw [blanks_line planWord_clean (by intro a ha; simp only [planArgs, List.mem_map] at ha; obtain ⟨n, _, rfl⟩ := ha; exact clean_itoa n)]
  unfold lineSpec
  simp only [List.map_cons, hr, if_true, mk_list]
  rw [if_pos (by simp [planArgs, PlanR.nums]), setNums_back hp]
theorem setNums_fwd {p q : PlanR} {args : List (List UInt8)} (hl : args.length = 7) (h : setNums p 0 (args.map mk) = some q) : args = planArgs q ∧ (∀ n ∈ q.nums, -9223372036854775808 ≤ n ∧ n ≤ 9223372036854775807) := by
  match args, hl with
  | [a, b, c, d, e, f, g], _ =>
    simp only [List.map_cons, List.map_nil, setNums, mk_list] at h
    cases ha : num? a with
    | none => simp [ha] at h
    | some na =>
    cases hb : num? b with
    | none => simp [ha, hb] at h
    | some nb =>
    cases hc : num? c with
    | none => simp [ha, hb, hc] at h
    | some nc =>
    cases hd : num? d with
    | none => simp [ha, hb, hc, hd] at h
    | some nd =>
    cases he : num? e with
    | none => simp [ha, hb, hc, hd, he] at h
    | some ne =>
    cases hf : num? f with
    | none => simp [ha, hb, hc, hd, he, hf] at h
    | some nf =>
    cases hg : num? g with
    | none => simp [ha, hb, hc, hd, he, hf, hg] at h
    | some ng =>
    simp only [ha, hb, hc, hd, he, hf, hg, Option.some.injEq] at h
    subst h
    obtain ⟨ea, ra⟩ := num_some ha
    obtain ⟨eb, rb⟩ := num_some hb
    obtain ⟨ec, rc⟩ := num_some hc
    obtain ⟨ed, rd⟩ := num_some hd
    obtain ⟨ee, re⟩ := num_some he
    obtain ⟨ef, rf⟩ := num_some hf
    obtain ⟨eg, rg⟩ := num_some hg
    refine ⟨by simp [planArgs, PlanR.nums, setField, ea, eb, ec, ed, ee, ef, eg], ?_⟩
    intro n hn
    simp only [PlanR.nums, setField, List.mem_cons, List.not_mem_nil, or_false] at hn
    rcases hn with rfl | rfl | rfl | rfl | rfl | rfl | rfl <;> assumption

/-! an op's line -/
def opArgs (o : OpR) : List (List UInt8) := [Lib.itoa o.kind, Lib.itoa o.n, hexText o.x]
def opLine (o : OpR) : List UInt8 := lineOf opWord (opArgs o)
theorem opText_eq (o : OpR) : opText o = opLine o ++ [10] := by
  simp [opText, opLine, lineOf, opArgs, tail, opWord]
theorem opOf_back {o : OpR} (h : o.wf) : opOf ((opArgs o).map mk) = some o := by
  simp only [opArgs, List.map_cons, List.map_nil, opOf, mk_list]
  rw [num_itoa h.k0 h.k1, num_itoa h.n0 h.n1, float_hex h.x]
theorem opOf_fwd {args : List (List UInt8)} {o : OpR} (h : opOf (args.map mk) = some o) : args = opArgs o ∧ o.wf := by
  match args with
  | [a, b, c] =>
    simp only [List.map_cons, List.map_nil, opOf, mk_list] at h
    cases ha : num? a with
    | none => simp [ha] at h
    | some na =>
    cases hb : num? b with
    | none => simp [ha, hb] at h
    | some nb =>
    cases hc : float? c with
    | none => simp [ha, hb, hc] at h
    | some nc =>
    simp only [ha, hb, hc, Option.some.injEq] at h
    subst h
    obtain ⟨ea, ra1, ra2⟩ := num_some ha
    obtain ⟨eb, rb1, rb2⟩ := num_some hb
    obtain ⟨ec, rc⟩ := float_some hc
    exact ⟨by simp [opArgs, ea, eb, ec], ⟨ra1, ra2, rb1, rb2, rc⟩⟩
  | [] => simp [opOf] at h
  | [_] => simp [opOf] at h
  | [_, _] => simp [opOf] at h
  | _ :: _ :: _ :: _ :: _ => simp [opOf] at h

/-! a step's line -/
def stepLine (t : St) : List UInt8 := lineOf (wordAt t.kind.toNat) (argsList t (askAt t.kind.toNat))
theorem argsText_eq : ∀ (l : List UInt8) (t : St), argsText t l = tail 32 (argsList t l)
  | [], t => rfl
  | c :: r, t => by rw [argsText, argsText_eq r]; simp [argsList, tail]
theorem lineText_eq (t : St) : lineText t = stepLine t ++ [10] := by
  unfold lineText stepLine lineOf
  rw [argsText_eq]
theorem clean_args : ∀ (l : List UInt8) (t : St), ∀ a ∈ argsList t l, clean a
  | [], t, a, h => by simp [argsList] at h
  | c :: r, t, a, h => by
    rw [argsList] at h
    rcases List.mem_cons.1 h with rfl | h
    · exact clean_arg t c
    · exact clean_args r _ a h
end Go.Proofs.YtgfbkmclekafbaaGreatDoor

/- Plain laws: a step's line, both ways. -/
set_option maxRecDepth 100000
namespace Go.Proofs.YtgfbkmclekafbaaGreatDoor
open Go Go.Vc

theorem kindIn_some : ∀ (m k : Nat) {word : List UInt8} {j : Nat}, kindIn word m k = some j → wordAt j = word ∧ word ≠ [] ∧ j < k + m
  | 0, k, word, j, h => by cases h
  | m + 1, k, word, j, h => by
    unfold kindIn at h
    split at h
    · rename_i hc; simp only [Option.some.injEq] at h; subst h; exact ⟨hc.1, hc.2, by omega⟩
    · obtain ⟨h1, h2, h3⟩ := kindIn_some m (k + 1) h; exact ⟨h1, h2, by omega⟩
theorem setArg_n {s s' : St} {a : List UInt8} (h : setArg s 110 a = some s') : ∃ x, s' = { s with node := x } ∧ Lib.itoa x = a ∧ -9223372036854775808 ≤ x ∧ x ≤ 9223372036854775807 := by
  unfold setArg at h
  rw [if_pos rfl] at h
  split at h
  · rename_i x hx; simp only [Option.some.injEq] at h; obtain ⟨h1, h2, h3⟩ := num_some hx; exact ⟨x, h.symm, h1, h2, h3⟩
  · cases h
theorem setArg_k {s s' : St} {a : List UInt8} (h : setArg s 107 a = some s') : ∃ x, s' = { s with n := x } ∧ Lib.itoa x = a ∧ -9223372036854775808 ≤ x ∧ x ≤ 9223372036854775807 := by
  unfold setArg at h
  rw [if_neg (by decide), if_pos rfl] at h
  split at h
  · rename_i x hx; simp only [Option.some.injEq] at h; obtain ⟨h1, h2, h3⟩ := num_some hx; exact ⟨x, h.symm, h1, h2, h3⟩
  · cases h
theorem setArg_u {s s' : St} {a : List UInt8} (h : setArg s 117 a = some s') : ∃ x, s' = { s with key := x } ∧ Lib.decDigits x = a ∧ x < 18446744073709551616 := by
  unfold setArg at h
  rw [if_neg (by decide), if_neg (by decide), if_pos rfl] at h
  split at h
  · rename_i x hx; simp only [Option.some.injEq] at h; obtain ⟨h1, h2⟩ := key_some hx; exact ⟨x, h.symm, h1, h2⟩
  · cases h
theorem setArg_v {s s' : St} {a : List UInt8} (h : setArg s 118 a = some s') : ∃ x, s' = { s with val := x } ∧ hexText x = a ∧ x < 18446744073709551616 := by
  unfold setArg at h
  rw [if_neg (by decide), if_neg (by decide), if_neg (by decide), if_pos rfl] at h
  split at h
  · rename_i x hx; simp only [Option.some.injEq] at h; obtain ⟨h1, h2⟩ := float_some hx; exact ⟨x, h.symm, h1, h2⟩
  · cases h
theorem setArgs_cons {s s' : St} {c : UInt8} {r : List UInt8} {a : List UInt8} {xs : List (List UInt8)} (h : setArgs s (c :: r) (a :: xs) = some s') : ∃ s1, setArg s c a = some s1 ∧ setArgs s1 r xs = some s' := by
  unfold setArgs at h
  split at h
  · rename_i s1 h1; exact ⟨s1, h1, h⟩
  · cases h
def StepOk (t : St) (w : List UInt8) (args : List (List UInt8)) : Prop := w = wordAt t.kind.toNat ∧ args = argsList t (askAt t.kind.toNat) ∧ 1 ≤ t.kind ∧ t.kind ≤ 11 ∧ ¬ (lineLeft t).bad ∧ t.wf
theorem fwd_1 {args : List (List UInt8)} {t : St} (hl : args.length = 3) (h : setArgs ⟨1, 0, 0, 0, 0⟩ (askAt 1) args = some t) : StepOk t (wordAt 1) args := by
  match args, hl with
  | [a0, a1, a2], _ =>
    obtain ⟨s1, h1, g1⟩ := setArgs_cons h
    obtain ⟨x1, rfl, e1, l1, u1⟩ := setArg_n h1
    obtain ⟨s2, h2, g2⟩ := setArgs_cons g1
    obtain ⟨x2, rfl, e2, u2⟩ := setArg_u h2
    obtain ⟨s3, h3, g3⟩ := setArgs_cons g2
    obtain ⟨x3, rfl, e3, u3⟩ := setArg_v h3
    simp only [setArgs, Option.some.injEq] at g3
    subst g3
    refine ⟨rfl, ?_, by simp, by simp, ?_, ⟨?_, ?_, ?_, ?_, ?_, ?_⟩⟩
    · simp [argsList, askAt, argText, clearArg, e1, e2, e3]
    · simp [lineLeft, askAt, argsLeft, clearArg, St.bad]
    all_goals first | assumption | simp
theorem fwd_2 {args : List (List UInt8)} {t : St} (hl : args.length = 2) (h : setArgs ⟨2, 0, 0, 0, 0⟩ (askAt 2) args = some t) : StepOk t (wordAt 2) args := by
  match args, hl with
  | [a0, a1], _ =>
    obtain ⟨s1, h1, g1⟩ := setArgs_cons h
    obtain ⟨x1, rfl, e1, l1, u1⟩ := setArg_n h1
    obtain ⟨s2, h2, g2⟩ := setArgs_cons g1
    obtain ⟨x2, rfl, e2, l2, u2⟩ := setArg_k h2
    simp only [setArgs, Option.some.injEq] at g2
    subst g2
    refine ⟨rfl, ?_, by simp, by simp, ?_, ⟨?_, ?_, ?_, ?_, ?_, ?_⟩⟩
    · simp [argsList, askAt, argText, clearArg, e1, e2]
    · simp [lineLeft, askAt, argsLeft, clearArg, St.bad]
    all_goals first | assumption | simp
theorem fwd_3 {args : List (List UInt8)} {t : St} (hl : args.length = 0) (h : setArgs ⟨3, 0, 0, 0, 0⟩ (askAt 3) args = some t) : StepOk t (wordAt 3) args := by
  match args, hl with
  | [], _ =>
    simp only [askAt, setArgs, Option.some.injEq] at h
    subst h
    refine ⟨rfl, ?_, by simp, by simp, ?_, ⟨?_, ?_, ?_, ?_, ?_, ?_⟩⟩
    · simp [argsList, askAt, argText, clearArg]
    · simp [lineLeft, askAt, argsLeft, clearArg, St.bad]
    all_goals first | assumption | simp
theorem fwd_4 {args : List (List UInt8)} {t : St} (hl : args.length = 1) (h : setArgs ⟨4, 0, 0, 0, 0⟩ (askAt 4) args = some t) : StepOk t (wordAt 4) args := by
  match args, hl with
  | [a0], _ =>
    obtain ⟨s1, h1, g1⟩ := setArgs_cons h
    obtain ⟨x1, rfl, e1, l1, u1⟩ := setArg_k h1
    simp only [setArgs, Option.some.injEq] at g1
    subst g1
    refine ⟨rfl, ?_, by simp, by simp, ?_, ⟨?_, ?_, ?_, ?_, ?_, ?_⟩⟩
    · simp [argsList, askAt, argText, clearArg, e1]
    · simp [lineLeft, askAt, argsLeft, clearArg, St.bad]
    all_goals first | assumption | simp
theorem fwd_5 {args : List (List UInt8)} {t : St} (hl : args.length = 1) (h : setArgs ⟨5, 0, 0, 0, 0⟩ (askAt 5) args = some t) : StepOk t (wordAt 5) args := by
  match args, hl with
  | [a0], _ =>
    obtain ⟨s1, h1, g1⟩ := setArgs_cons h
    obtain ⟨x1, rfl, e1, l1, u1⟩ := setArg_k h1
    simp only [setArgs, Option.some.injEq] at g1
    subst g1
    refine ⟨rfl, ?_, by simp, by simp, ?_, ⟨?_, ?_, ?_, ?_, ?_, ?_⟩⟩
    · simp [argsList, askAt, argText, clearArg, e1]
    · simp [lineLeft, askAt, argsLeft, clearArg, St.bad]
    all_goals first | assumption | simp
theorem fwd_6 {args : List (List UInt8)} {t : St} (hl : args.length = 1) (h : setArgs ⟨6, 0, 0, 0, 0⟩ (askAt 6) args = some t) : StepOk t (wordAt 6) args := by
  match args, hl with
  | [a0], _ =>
    obtain ⟨s1, h1, g1⟩ := setArgs_cons h
    obtain ⟨x1, rfl, e1, l1, u1⟩ := setArg_k h1
    simp only [setArgs, Option.some.injEq] at g1
    subst g1
    refine ⟨rfl, ?_, by simp, by simp, ?_, ⟨?_, ?_, ?_, ?_, ?_, ?_⟩⟩
    · simp [argsList, askAt, argText, clearArg, e1]
    · simp [lineLeft, askAt, argsLeft, clearArg, St.bad]
    all_goals first | assumption | simp
theorem fwd_7 {args : List (List UInt8)} {t : St} (hl : args.length = 2) (h : setArgs ⟨7, 0, 0, 0, 0⟩ (askAt 7) args = some t) : StepOk t (wordAt 7) args := by
  match args, hl with
  | [a0, a1], _ =>
    obtain ⟨s1, h1, g1⟩ := setArgs_cons h
    obtain ⟨x1, rfl, e1, l1, u1⟩ := setArg_n h1
    obtain ⟨s2, h2, g2⟩ := setArgs_cons g1
    obtain ⟨x2, rfl, e2, l2, u2⟩ := setArg_k h2
    simp only [setArgs, Option.some.injEq] at g2
    subst g2
    refine ⟨rfl, ?_, by simp, by simp, ?_, ⟨?_, ?_, ?_, ?_, ?_, ?_⟩⟩
    · simp [argsList, askAt, argText, clearArg, e1, e2]
    · simp [lineLeft, askAt, argsLeft, clearArg, St.bad]
    all_goals first | assumption | simp
theorem fwd_8 {args : List (List UInt8)} {t : St} (hl : args.length = 1) (h : setArgs ⟨8, 0, 0, 0, 0⟩ (askAt 8) args = some t) : StepOk t (wordAt 8) args := by
  match args, hl with
  | [a0], _ =>
    obtain ⟨s1, h1, g1⟩ := setArgs_cons h
    obtain ⟨x1, rfl, e1, l1, u1⟩ := setArg_n h1
    simp only [setArgs, Option.some.injEq] at g1
    subst g1
    refine ⟨rfl, ?_, by simp, by simp, ?_, ⟨?_, ?_, ?_, ?_, ?_, ?_⟩⟩
    · simp [argsList, askAt, argText, clearArg, e1]
    · simp [lineLeft, askAt, argsLeft, clearArg, St.bad]
    all_goals first | assumption | simp
theorem fwd_9 {args : List (List UInt8)} {t : St} (hl : args.length = 1) (h : setArgs ⟨9, 0, 0, 0, 0⟩ (askAt 9) args = some t) : StepOk t (wordAt 9) args := by
  match args, hl with
  | [a0], _ =>
    obtain ⟨s1, h1, g1⟩ := setArgs_cons h
    obtain ⟨x1, rfl, e1, l1, u1⟩ := setArg_n h1
    simp only [setArgs, Option.some.injEq] at g1
    subst g1
    refine ⟨rfl, ?_, by simp, by simp, ?_, ⟨?_, ?_, ?_, ?_, ?_, ?_⟩⟩
    · simp [argsList, askAt, argText, clearArg, e1]
    · simp [lineLeft, askAt, argsLeft, clearArg, St.bad]
    all_goals first | assumption | simp
theorem fwd_10 {args : List (List UInt8)} {t : St} (hl : args.length = 1) (h : setArgs ⟨10, 0, 0, 0, 0⟩ (askAt 10) args = some t) : StepOk t (wordAt 10) args := by
  match args, hl with
  | [a0], _ =>
    obtain ⟨s1, h1, g1⟩ := setArgs_cons h
    obtain ⟨x1, rfl, e1, u1⟩ := setArg_u h1
    simp only [setArgs, Option.some.injEq] at g1
    subst g1
    refine ⟨rfl, ?_, by simp, by simp, ?_, ⟨?_, ?_, ?_, ?_, ?_, ?_⟩⟩
    · simp [argsList, askAt, argText, clearArg, e1]
    · simp [lineLeft, askAt, argsLeft, clearArg, St.bad]
    all_goals first | assumption | simp
theorem fwd_11 {args : List (List UInt8)} {t : St} (hl : args.length = 0) (h : setArgs ⟨11, 0, 0, 0, 0⟩ (askAt 11) args = some t) : StepOk t (wordAt 11) args := by
  match args, hl with
  | [], _ =>
    simp only [askAt, setArgs, Option.some.injEq] at h
    subst h
    refine ⟨rfl, ?_, by simp, by simp, ?_, ⟨?_, ?_, ?_, ?_, ?_, ?_⟩⟩
    · simp [argsList, askAt, argText, clearArg]
    · simp [lineLeft, askAt, argsLeft, clearArg, St.bad]
    all_goals first | assumption | simp
theorem step_fwd {w : List UInt8} {args : List (List UInt8)} {t : St} (h : stepSpec w args = .ok t) : StepOk t w args := by
  unfold stepSpec at h
  split at h
  · cases h
  · rename_i k hk
    obtain ⟨hw, hne, hlt⟩ := kindIn_some 12 0 hk
    split at h
    · rename_i hl
      split at h
      · rename_i s hs
        simp only [Except.ok.injEq] at h
        subst h
        subst hw
        match k, hlt with
        | 0, _ => exact absurd rfl hne
        | 1, _ => exact fwd_1 hl hs
        | 2, _ => exact fwd_2 hl hs
        | 3, _ => exact fwd_3 hl hs
        | 4, _ => exact fwd_4 hl hs
        | 5, _ => exact fwd_5 hl hs
        | 6, _ => exact fwd_6 hl hs
        | 7, _ => exact fwd_7 hl hs
        | 8, _ => exact fwd_8 hl hs
        | 9, _ => exact fwd_9 hl hs
        | 10, _ => exact fwd_10 hl hs
        | 11, _ => exact fwd_11 hl hs
        | k + 12, h => omega
      · cases h
    · cases h
theorem back_1 {t : St} (hk : t.kind = 1) (hb : ¬ (lineLeft t).bad) (hw : t.wf) : setArgs ⟨1, 0, 0, 0, 0⟩ (askAt 1) (argsList t (askAt 1)) = some t := by
  obtain ⟨kind, node, n, key, val⟩ := t
  simp only at hk
  subst hk
  obtain ⟨n0, n1, m0, m1, k0, v0⟩ := hw
  simp [lineLeft, askAt, argsLeft, clearArg, St.bad] at hb
  simp only [] at n0 n1 m0 m1 k0 v0
  simp [askAt, argsList, setArgs, setArg, argText, clearArg, num_itoa n0 n1, key_dec k0, float_hex v0, hb]
theorem back_2 {t : St} (hk : t.kind = 2) (hb : ¬ (lineLeft t).bad) (hw : t.wf) : setArgs ⟨2, 0, 0, 0, 0⟩ (askAt 2) (argsList t (askAt 2)) = some t := by
  obtain ⟨kind, node, n, key, val⟩ := t
  simp only at hk
  subst hk
  obtain ⟨n0, n1, m0, m1, k0, v0⟩ := hw
  simp [lineLeft, askAt, argsLeft, clearArg, St.bad] at hb
  simp only [] at n0 n1 m0 m1 k0 v0
  simp [askAt, argsList, setArgs, setArg, argText, clearArg, num_itoa n0 n1, num_itoa m0 m1, hb]
theorem back_3 {t : St} (hk : t.kind = 3) (hb : ¬ (lineLeft t).bad) (hw : t.wf) : setArgs ⟨3, 0, 0, 0, 0⟩ (askAt 3) (argsList t (askAt 3)) = some t := by
  obtain ⟨kind, node, n, key, val⟩ := t
  simp only at hk
  subst hk
  obtain ⟨n0, n1, m0, m1, k0, v0⟩ := hw
  simp [lineLeft, askAt, argsLeft, clearArg, St.bad] at hb
  simp only [] at n0 n1 m0 m1 k0 v0
  simp [askAt, argsList, setArgs, setArg, argText, clearArg, hb]
theorem back_4 {t : St} (hk : t.kind = 4) (hb : ¬ (lineLeft t).bad) (hw : t.wf) : setArgs ⟨4, 0, 0, 0, 0⟩ (askAt 4) (argsList t (askAt 4)) = some t := by
  obtain ⟨kind, node, n, key, val⟩ := t
  simp only at hk
  subst hk
  obtain ⟨n0, n1, m0, m1, k0, v0⟩ := hw
  simp [lineLeft, askAt, argsLeft, clearArg, St.bad] at hb
  simp only [] at n0 n1 m0 m1 k0 v0
  simp [askAt, argsList, setArgs, setArg, argText, clearArg, num_itoa m0 m1, hb]
theorem back_5 {t : St} (hk : t.kind = 5) (hb : ¬ (lineLeft t).bad) (hw : t.wf) : setArgs ⟨5, 0, 0, 0, 0⟩ (askAt 5) (argsList t (askAt 5)) = some t := by
  obtain ⟨kind, node, n, key, val⟩ := t
  simp only at hk
  subst hk
  obtain ⟨n0, n1, m0, m1, k0, v0⟩ := hw
  simp [lineLeft, askAt, argsLeft, clearArg, St.bad] at hb
  simp only [] at n0 n1 m0 m1 k0 v0
  simp [askAt, argsList, setArgs, setArg, argText, clearArg, num_itoa m0 m1, hb]
theorem back_6 {t : St} (hk : t.kind = 6) (hb : ¬ (lineLeft t).bad) (hw : t.wf) : setArgs ⟨6, 0, 0, 0, 0⟩ (askAt 6) (argsList t (askAt 6)) = some t := by
  obtain ⟨kind, node, n, key, val⟩ := t
  simp only at hk
  subst hk
  obtain ⟨n0, n1, m0, m1, k0, v0⟩ := hw
  simp [lineLeft, askAt, argsLeft, clearArg, St.bad] at hb
  simp only [] at n0 n1 m0 m1 k0 v0
  simp [askAt, argsList, setArgs, setArg, argText, clearArg, num_itoa m0 m1, hb]
theorem back_7 {t : St} (hk : t.kind = 7) (hb : ¬ (lineLeft t).bad) (hw : t.wf) : setArgs ⟨7, 0, 0, 0, 0⟩ (askAt 7) (argsList t (askAt 7)) = some t := by
  obtain ⟨kind, node, n, key, val⟩ := t
  simp only at hk
  subst hk
  obtain ⟨n0, n1, m0, m1, k0, v0⟩ := hw
  simp [lineLeft, askAt, argsLeft, clearArg, St.bad] at hb
  simp only [] at n0 n1 m0 m1 k0 v0
  simp [askAt, argsList, setArgs, setArg, argText, clearArg, num_itoa n0 n1, num_itoa m0 m1, hb]
theorem back_8 {t : St} (hk : t.kind = 8) (hb : ¬ (lineLeft t).bad) (hw : t.wf) : setArgs ⟨8, 0, 0, 0, 0⟩ (askAt 8) (argsList t (askAt 8)) = some t := by
  obtain ⟨kind, node, n, key, val⟩ := t
  simp only at hk
  subst hk
  obtain ⟨n0, n1, m0, m1, k0, v0⟩ := hw
  simp [lineLeft, askAt, argsLeft, clearArg, St.bad] at hb
  simp only [] at n0 n1 m0 m1 k0 v0
  simp [askAt, argsList, setArgs, setArg, argText, clearArg, num_itoa n0 n1, hb]
theorem back_9 {t : St} (hk : t.kind = 9) (hb : ¬ (lineLeft t).bad) (hw : t.wf) : setArgs ⟨9, 0, 0, 0, 0⟩ (askAt 9) (argsList t (askAt 9)) = some t := by
  obtain ⟨kind, node, n, key, val⟩ := t
  simp only at hk
  subst hk
  obtain ⟨n0, n1, m0, m1, k0, v0⟩ := hw
  simp [lineLeft, askAt, argsLeft, clearArg, St.bad] at hb
  simp only [] at n0 n1 m0 m1 k0 v0
  simp [askAt, argsList, setArgs, setArg, argText, clearArg, num_itoa n0 n1, hb]
theorem back_10 {t : St} (hk : t.kind = 10) (hb : ¬ (lineLeft t).bad) (hw : t.wf) : setArgs ⟨10, 0, 0, 0, 0⟩ (askAt 10) (argsList t (askAt 10)) = some t := by
  obtain ⟨kind, node, n, key, val⟩ := t
  simp only at hk
  subst hk
  obtain ⟨n0, n1, m0, m1, k0, v0⟩ := hw
  simp [lineLeft, askAt, argsLeft, clearArg, St.bad] at hb
  simp only [] at n0 n1 m0 m1 k0 v0
  simp [askAt, argsList, setArgs, setArg, argText, clearArg, key_dec k0, hb]
theorem back_11 {t : St} (hk : t.kind = 11) (hb : ¬ (lineLeft t).bad) (hw : t.wf) : setArgs ⟨11, 0, 0, 0, 0⟩ (askAt 11) (argsList t (askAt 11)) = some t := by
  obtain ⟨kind, node, n, key, val⟩ := t
  simp only at hk
  subst hk
  obtain ⟨n0, n1, m0, m1, k0, v0⟩ := hw
  simp [lineLeft, askAt, argsLeft, clearArg, St.bad] at hb
  simp only [] at n0 n1 m0 m1 k0 v0
  simp [askAt, argsList, setArgs, setArg, argText, clearArg, hb]
theorem step_back {t : St} (h1 : 1 ≤ t.kind) (h2 : t.kind ≤ 11) (hb : ¬ (lineLeft t).bad) (hw : t.wf) : stepSpec (wordAt t.kind.toNat) (argsList t (askAt t.kind.toNat)) = .ok t := by
  obtain ⟨k, hk⟩ : ∃ k : Nat, t.kind = (k : Int) := ⟨t.kind.toNat, by omega⟩
  rw [hk, Int.toNat_natCast]
  unfold stepSpec
  rw [kind_word (k := k) (by omega) (by omega)]
  simp only
  rw [if_pos (argsList_len _ _)]
  have : setArgs ⟨k, 0, 0, 0, 0⟩ (askAt k) (argsList t (askAt k)) = some t := by
    match k, hk with
    | 0, hk => omega
    | 1, hk => exact back_1 hk hb hw
    | 2, hk => exact back_2 hk hb hw
    | 3, hk => exact back_3 hk hb hw
    | 4, hk => exact back_4 hk hb hw
    | 5, hk => exact back_5 hk hb hw
    | 6, hk => exact back_6 hk hb hw
    | 7, hk => exact back_7 hk hb hw
    | 8, hk => exact back_8 hk hb hw
    | 9, hk => exact back_9 hk hb hw
    | 10, hk => exact back_10 hk hb hw
    | 11, hk => exact back_11 hk hb hw
    | k + 12, hk => omega
  rw [this]
end Go.Proofs.YtgfbkmclekafbaaGreatDoor

/- Plain laws: a text, both ways. -/
set_option maxRecDepth 100000
namespace Go.Proofs.YtgfbkmclekafbaaGreatDoor
open Go Go.Vc

/-! lines, each ended -/
def ends (ls : List (List UInt8)) : List UInt8 := (ls.map (· ++ [10])).flatten
theorem ends_nil : ends [] = [] := rfl
theorem ends_cons (x : List UInt8) (r : List (List UInt8)) : ends (x :: r) = x ++ 10 :: ends r := by simp [ends]
theorem ends_append (a b : List (List UInt8)) : ends (a ++ b) = ends a ++ ends b := by simp [ends]
theorem cut_ends : ∀ (ls : List (List UInt8)) (r : List UInt8), (∀ x ∈ ls, (10 : UInt8) ∉ x) → cutAt 10 [] (ends ls ++ r) = ls ++ cutAt 10 [] r
  | [], r, _ => rfl
  | x :: t, r, h => by
    rw [ends_cons, List.append_assoc, List.cons_append, cutAt_at x [] _ (h x (by simp)), cut_ends t r (fun y hy => h y (by simp [hy]))]; rfl

/-! the reader through lines -/
def runL : RS → List (List UInt8) → Except Int RS
  | r, [] => .ok r
  | r, x :: rest => match stepL r x with
    | .ok r' => runL r' rest
    | .error e => .error e
theorem runL_append : ∀ (a : List (List UInt8)) (r : RS) (b : List (List UInt8)) {r' : RS}, runL r a = .ok r' → runL r (a ++ b) = runL r' b
  | [], r, b, r', h => by simp only [runL, Except.ok.injEq] at h; subst h; rfl
  | x :: t, r, b, r', h => by
    rw [List.cons_append, runL]
    rw [runL] at h
    split at h
    · exact runL_append t _ b h
    · cases h
theorem parseL_run : ∀ (a : List (List UInt8)) (r : RS) (n : Nat) (b : List (List UInt8)) {r' : RS}, runL r a = .ok r' → parseL r n (a ++ b) = parseL r' (n + a.length) b
  | [], r, n, b, r', h => by simp only [runL, Except.ok.injEq] at h; subst h; rfl
  | x :: t, r, n, b, r', h => by
    rw [List.cons_append, parseL]
    rw [runL] at h
    split at h
    · rename_i hs; rw [hs]; simp only; rw [parseL_run t _ (n + 1) b h]; congr 1; simp; omega
    · cases h
theorem run_parseL : ∀ (a : List (List UInt8)) (r : RS) (n : Nat) {r' : RS} {m : Nat}, parseL r n a = .ok (r', m) → runL r a = .ok r' ∧ m = n + a.length
  | [], r, n, r', m, h => by simp only [parseL, Except.ok.injEq, Prod.mk.injEq] at h; exact ⟨by rw [runL, h.1], by rw [← h.2]; rfl⟩
  | x :: t, r, n, r', m, h => by
    rw [parseL] at h
    rw [runL]
    split at h
    · rename_i hs; rw [hs]; obtain ⟨h1, h2⟩ := run_parseL t _ _ h; exact ⟨h1, by rw [h2]; simp; omega⟩
    · cases h
theorem parseL_err : ∀ (a : List (List UInt8)) (r : RS) (n : Nat) {e : Int} {m : Nat}, parseL r n a = .error (e, m) → n < m ∧ ∃ s x, stepL s x = .error e
  | [], r, n, e, m, h => by cases h
  | x :: t, r, n, e, m, h => by
    rw [parseL] at h
    split at h
    · rename_i hs; obtain ⟨h1, h2⟩ := parseL_err t _ _ h; exact ⟨by omega, h2⟩
    · rename_i e' hs; simp only [Except.error.injEq, Prod.mk.injEq] at h; obtain ⟨rfl, rfl⟩ := h; exact ⟨by omega, _, _, hs⟩
theorem stepL_err {r : RS} {x : List UInt8} {e : Int} (h : stepL r x = .error e) : e = 210 ∨ e = 211 ∨ e = 212 := by
  unfold stepL at h
  split at h
  · cases h
  · obtain ⟨w, args, hb, _⟩ := line_blanks x
    rw [hb] at h
    unfold lineSpec at h
    simp only [List.map_cons] at h
    split at h
    · split at h
      · split at h
        · split at h
          · cases h
          · cases h; exact .inr (.inl rfl)
        · cases h; exact .inr (.inl rfl)
      · cases h; exact .inl rfl
    · split at h
      · split at h
        · cases h
        · cases h; exact .inr (.inl rfl)
      · split at h
        · split at h
          · cases h
          · rename_i e' he
            cases h
            unfold stepSpec at he
            split at he
            · cases he; exact .inl rfl
            · split at he
              · split at he
                · cases he
                · cases he; exact .inr (.inl rfl)
              · cases he; exact .inr (.inl rfl)
        · cases h; exact .inr (.inr rfl)

/-! printed lines -/
theorem planLine_skip (p : PlanR) : skipL (planLine p) = false := rfl
theorem opLine_skip (o : OpR) : skipL (opLine o) = false := rfl
theorem stepLine_skip {t : St} (h1 : 1 ≤ t.kind) (h2 : t.kind ≤ 11) : skipL (stepLine t) = false := by
  unfold stepLine lineOf
  generalize tail 32 _ = l
  obtain ⟨k, hk⟩ : ∃ k : Nat, t.kind.toNat = k ∧ 1 ≤ k ∧ k ≤ 11 := ⟨t.kind.toNat, rfl, by omega, by omega⟩
  rw [hk.1]
  have : ∀ k : Fin 12, 1 ≤ k.val → ∃ c r, wordAt k.val = c :: r ∧ (c == 35) = false := by
    intro k hk
    match k, hk with
    | ⟨1, _⟩, _ => exact ⟨_, _, rfl, rfl⟩
    | ⟨2, _⟩, _ => exact ⟨_, _, rfl, rfl⟩
    | ⟨3, _⟩, _ => exact ⟨_, _, rfl, rfl⟩
    | ⟨4, _⟩, _ => exact ⟨_, _, rfl, rfl⟩
    | ⟨5, _⟩, _ => exact ⟨_, _, rfl, rfl⟩
    | ⟨6, _⟩, _ => exact ⟨_, _, rfl, rfl⟩
    | ⟨7, _⟩, _ => exact ⟨_, _, rfl, rfl⟩
    | ⟨8, _⟩, _ => exact ⟨_, _, rfl, rfl⟩
    | ⟨9, _⟩, _ => exact ⟨_, _, rfl, rfl⟩
    | ⟨10, _⟩, _ => exact ⟨_, _, rfl, rfl⟩
    | ⟨11, _⟩, _ => exact ⟨_, _, rfl, rfl⟩
  obtain ⟨c, r, hw, hc⟩ := this ⟨k, by omega⟩ hk.2.1
  simp only at hw
  rw [hw]; exact hc
theorem planLine_no10 (p : PlanR) : (10 : UInt8) ∉ planLine p := line_no10 planWord_clean (by intro a ha; simp only [planArgs, List.mem_map] at ha; obtain ⟨n, _, rfl⟩ := ha; exact clean_itoa n)
theorem opArgs_clean (o : OpR) : ∀ a ∈ opArgs o, clean a := by
  intro a ha
  simp only [opArgs, List.mem_cons, List.not_mem_nil, or_false] at ha
  rcases ha with rfl | rfl | rfl
  · exact clean_itoa _
  · exact clean_itoa _
  · exact clean_hex _
theorem opLine_no10 (o : OpR) : (10 : UInt8) ∉ opLine o := line_no10 opWord_clean (opArgs_clean o)
theorem stepLine_no10 (t : St) : (10 : UInt8) ∉ stepLine t := line_no10 (clean_word _) (clean_args _ _)
def StOk (t : St) : Prop := 1 ≤ t.kind ∧ t.kind ≤ 11 ∧ ¬ (lineLeft t).bad ∧ t.wf
theorem wordAt_op (k : Nat) : wordAt k ≠ opWord := by
  unfold wordAt opWord; split <;> decide
theorem stepL_plan {p : PlanR} {r : RS} (hr : r.began = false) (hp : p.wf) : stepL r (planLine p) = .ok { r with p := { p with ops := r.p.ops }, began := true } := by
  unfold stepL; rw [if_neg (by rw [planLine_skip]; decide)]; exact lineSpec_plan hr hp.nums
theorem stepL_op {o : OpR} {r : RS} (hr : r.began = true) (hs : r.steps = []) (ho : o.wf) : stepL r (opLine o) = .ok { r with p := { r.p with ops := r.p.ops ++ [o] } } := by
  unfold stepL; rw [if_neg (by rw [opLine_skip]; decide)]
  unfold opLine
  rw [blanks_line opWord_clean (opArgs_clean o)]
  unfold lineSpec
  simp only [List.map_cons, hr, mk_list]
  rw [if_neg (by decide), if_pos ⟨trivial, hs⟩, opOf_back ho]
theorem stepL_step {t : St} {r : RS} (hr : r.began = true) (hs : r.steps.length < 4096) (ht : StOk t) : stepL r (stepLine t) = .ok { r with steps := r.steps ++ [t] } := by
  obtain ⟨h1, h2, h3, h4⟩ := ht
  unfold stepL; rw [if_neg (by rw [stepLine_skip h1 h2]; decide)]
  unfold stepLine
  rw [blanks_line (clean_word _) (clean_args _ _)]
  unfold lineSpec
  simp only [List.map_cons, hr, mk_list]
  rw [if_neg (by decide), if_neg (fun h => wordAt_op _ h.1), if_pos hs]
  have : (List.map mk (argsList t (askAt t.kind.toNat))).map (fun x => x.data.toList) = argsList t (askAt t.kind.toNat) := by
    rw [List.map_map]; simp [Function.comp_def, mk_list]
  rw [this, step_back h1 h2 h3 h4]
def linesP (p : PlanR) (steps : List St) : List (List UInt8) := planLine p :: (p.ops.map opLine ++ steps.map stepLine)
theorem linesP_no10 (p : PlanR) (steps : List St) : ∀ x ∈ linesP p steps, (10 : UInt8) ∉ x := by
  intro x hx
  simp only [linesP, List.mem_cons, List.mem_append, List.mem_map] at hx
  rcases hx with rfl | ⟨o, _, rfl⟩ | ⟨t, _, rfl⟩
  · exact planLine_no10 p
  · exact opLine_no10 o
  · exact stepLine_no10 t
theorem run_ops : ∀ (l : List OpR) (r : RS), r.began = true → r.steps = [] → (∀ o ∈ l, o.wf) → runL r (l.map opLine) = .ok { r with p := { r.p with ops := r.p.ops ++ l } }
  | [], r, _, _, _ => by simp [runL]
  | o :: t, r, hb, hs, hw => by
    rw [List.map_cons, runL, stepL_op hb hs (hw o (by simp))]
    simp only
    rw [run_ops t _ (by exact hb) (by exact hs) (fun x hx => hw x (by simp [hx]))]
    simp
theorem run_steps : ∀ (l : List St) (r : RS), r.began = true → r.steps.length + l.length ≤ 4096 → (∀ t ∈ l, StOk t) → runL r (l.map stepLine) = .ok { r with steps := r.steps ++ l }
  | [], r, _, _, _ => by simp [runL]
  | o :: t, r, hb, hs, hw => by
    rw [List.map_cons, runL, stepL_step hb (by simp only [List.length_cons] at hs; omega) (hw o (by simp))]
    simp only
    rw [run_steps t _ (by exact hb) (by simp only [List.length_cons, List.length_append, List.length_nil] at hs ⊢; omega) (fun x hx => hw x (by simp [hx]))]
    simp
theorem run_lines {p : PlanR} {steps : List St} (hp : p.wf) (hl : steps.length ≤ 4096) (hs : ∀ t ∈ steps, StOk t) : runL rs0 (linesP p steps) = .ok ⟨p, steps, true⟩ := by
  unfold linesP
  rw [runL, stepL_plan rfl hp]
  simp only
  have h1 := run_ops p.ops { rs0 with p := { p with ops := rs0.p.ops }, began := true } rfl rfl hp.ops
  rw [runL_append _ _ _ h1]
  rw [run_steps steps _ rfl (by show 0 + _ ≤ _; omega) hs]
  simp [rs0, zeroPlan]

/-! printing -/
theorem opsText_eq : ∀ (l : List OpR) (acc : List UInt8), opsText acc l = acc ++ ends (l.map opLine) ∨ (262144 < (opsText acc l).length ∧ 262144 < (acc ++ ends (l.map opLine)).length)
  | [], acc => .inl (by simp [opsText, ends])
  | o :: r, acc => by
    rw [opsText]
    split
    · rename_i h; exact .inr ⟨h, by rw [List.length_append]; omega⟩
    · have e : acc ++ ends ((o :: r).map opLine) = (acc ++ opText o) ++ ends (r.map opLine) := by
        rw [List.map_cons, ends_cons, opText_eq]; simp
      rw [e]
      exact opsText_eq r _
theorem stepsText_ok : ∀ (l : List St) (acc : List UInt8), (∀ t ∈ l, 1 ≤ t.kind ∧ t.kind ≤ 11 ∧ ¬ (lineLeft t).bad) → stepsText acc l = .ok (acc ++ ends (l.map stepLine))
  | [], acc, _ => by simp [stepsText, ends]
  | t :: r, acc, h => by
    obtain ⟨h1, h2, h3⟩ := h t (by simp)
    rw [stepsText, if_neg (by omega), if_neg h3, stepsText_ok r _ (fun x hx => h x (by simp [hx])), lineText_eq, List.map_cons, ends_cons]
    simp
theorem stepsText_some : ∀ (l : List St) (acc : List UInt8) {u : List UInt8}, stepsText acc l = .ok u → ∀ t ∈ l, 1 ≤ t.kind ∧ t.kind ≤ 11 ∧ ¬ (lineLeft t).bad
  | [], acc, u, h => by simp
  | t :: r, acc, u, h => by
    rw [stepsText] at h
    split at h
    · cases h
    · split at h
      · cases h
      · intro x hx
        rcases List.mem_cons.1 hx with rfl | hx
        · refine ⟨by omega, by omega, by assumption⟩
        · exact stepsText_some r _ h x hx
theorem stepsText_err : ∀ (l : List St) (acc : List UInt8) {e : Int}, stepsText acc l = .error e → e = 200 ∨ e = 1
  | [], acc, e, h => by cases h
  | t :: r, acc, e, h => by
    rw [stepsText] at h
    split at h
    · cases h; exact .inl rfl
    · split at h
      · cases h; exact .inr rfl
      · exact stepsText_err r _ h
theorem print_ok {p : PlanR} {steps : List St} (hl : steps.length ≤ 4096) (hs : ∀ t ∈ steps, 1 ≤ t.kind ∧ t.kind ≤ 11 ∧ ¬ (lineLeft t).bad) :
    printSpec p steps = if 262144 < (ends (linesP p steps)).length then .error 6 else .ok (ends (linesP p steps)) := by
  have e : ends (linesP p steps) = (planText p ++ ends (p.ops.map opLine)) ++ ends (steps.map stepLine) := by
    unfold linesP; rw [ends_cons, ends_append, planText_eq]; simp
  unfold printSpec
  rw [if_neg (by omega), stepsText_ok steps _ hs]
  simp only
  rcases opsText_eq p.ops (planText p) with h | ⟨h1, h2⟩
  · rw [h, ← e]
  · rw [if_pos (by rw [List.length_append]; omega), if_pos (by rw [e, List.length_append]; omega)]
theorem print_some {p : PlanR} {steps : List St} {u : List UInt8} (h : printSpec p steps = .ok u) : steps.length ≤ 4096 ∧ (∀ t ∈ steps, 1 ≤ t.kind ∧ t.kind ≤ 11 ∧ ¬ (lineLeft t).bad) ∧ u = ends (linesP p steps) ∧ u.length ≤ 262144 := by
  have h0 := h
  unfold printSpec at h
  split at h
  · cases h
  · rename_i hl
    split at h
    · cases h
    · rename_i l hst
      have hs := stepsText_some _ _ hst
      rw [print_ok (by omega) hs] at h0
      split at h0
      · cases h0
      · rename_i hle
        simp only [Except.ok.injEq] at h0
        exact ⟨by omega, hs, h0.symm, by rw [← h0]; omega⟩
theorem print_err {p : PlanR} {steps : List St} {e : Int} (h : printSpec p steps = .error e) : (e = 212 ∧ 4096 < steps.length) ∨ e = 200 ∨ e = 1 ∨ e = 6 := by
  unfold printSpec at h
  split at h
  · cases h; exact .inl ⟨rfl, by assumption⟩
  · split at h
    · rename_i e' he; cases h; rcases stepsText_err _ _ he with h | h <;> simp [h]
    · split at h
      · cases h; simp
      · cases h
/-- what is printed is read again -/
theorem parse_print {p : PlanR} {steps : List St} {u : List UInt8} (hp : p.wf) (hw : ∀ t ∈ steps, t.wf) (h : printSpec p steps = .ok u) : parseText u = ⟨p, steps, 0, 0⟩ := by
  obtain ⟨h1, h2, rfl, h4⟩ := print_some h
  have hrun := run_lines hp h1 (fun t ht => ⟨(h2 t ht).1, (h2 t ht).2.1, (h2 t ht).2.2, hw t ht⟩)
  unfold parseText
  rw [if_neg (by omega)]
  have hc := cut_ends (linesP p steps) [] (linesP_no10 p steps)
  rw [List.append_nil] at hc
  rw [hc, parseL_run _ _ _ _ hrun]
  simp [parseL, cutAt, stepL, skipL]
end Go.Proofs.YtgfbkmclekafbaaGreatDoor

/- awake. -/
set_option maxRecDepth 100000
namespace Go.Proofs.YtgfbkmclekafbaaGreatDoor
open Go Go.Vc

theorem parseR_el {s : ByteArray} {w : World} {R : ParseR} {K : Value → World → Prop} {X : List PanicEntry → World → Prop} (hw : Lw w) (hs : s.size < 4294967181) (hR : parseText s.data.toList = R)
    (hK : ∀ oq ol oc sq sl sc w', PRes w w' R oq ol oc sq sl sc → K (.tuple #[.agg #[.int .i64 R.p.p0, .int .i64 R.p.p1, .int .i64 R.p.p2, .slice oq ol oc, .int .i64 R.p.p4, .int .i64 R.p.p5, .int .i64 R.p.p6, .int .i64 R.p.p7], .slice sq sl sc, .int .i64 (R.at_ : Int), .int .i64 R.e]) w') :
    call P n_script_Parse [.string s] w K X := by
  subst hR
  exact parse_el hw hs hK

/-! the texts that awake asks of -/
def wp0 : PlanR := ⟨1, 1, 1, [], 2, 4, 2, 8⟩
def wo0 : OpR := ⟨4, 0, 0⟩
def wp1 : PlanR := { wp0 with ops := [wo0] }
def wt0 : St := ⟨1, 0, 0, 7, 4617315517961601024⟩
def wt1 : St := ⟨3, 0, 0, 0, 0⟩
theorem wp0_line : planLine wp0 = [112, 108, 97, 110, 32, 49, 32, 49, 32, 49, 32, 50, 32, 52, 32, 50, 32, 56] := by
  simp [planLine, lineOf, planArgs, PlanR.nums, wp0, tail, planWord, Lib.itoa, Lib.decDigits_one]
theorem wp1_line : planLine wp1 = planLine wp0 := rfl
theorem wo0_line : opLine wo0 = [111, 112, 32, 52, 32, 48, 32, 48, 48, 48, 48, 48, 48, 48, 48, 48, 48, 48, 48, 48, 48, 48, 48] := by
  simp [opLine, lineOf, opArgs, wo0, tail, opWord, Lib.itoa, Lib.decDigits_one, hexText, hexFill_zero]
theorem wt0_line : stepLine wt0 = [112, 114, 111, 100, 117, 99, 101, 32, 48, 32, 55, 32, 52, 48, 49, 52, 48, 48, 48, 48, 48, 48, 48, 48, 48, 48, 48, 48] := by
  simp [stepLine, lineOf, wt0, tail, wordAt, askAt, argsList, argText, clearArg, Lib.itoa, Lib.decDigits_one]
  rfl
theorem wt1_line : stepLine wt1 = [116, 105, 99, 107] := rfl
theorem wp1_wf : wp1.wf := ⟨by intro n hn; simp only [PlanR.nums, wp1, wp0, List.mem_cons, List.not_mem_nil, or_false] at hn; omega, by intro o ho; simp only [wp1, List.mem_singleton] at ho; subst ho; exact ⟨by decide, by decide, by decide, by decide, by decide⟩⟩
theorem wt_ok : ∀ t ∈ [wt0, wt1], StOk t := by
  intro t ht
  simp only [List.mem_cons, List.not_mem_nil, or_false] at ht
  rcases ht with rfl | rfl
  · exact ⟨by decide, by decide, by decide, ⟨by decide, by decide, by decide, by decide, by decide, by decide⟩⟩
  · exact ⟨by decide, by decide, by decide, ⟨by decide, by decide, by decide, by decide, by decide, by decide⟩⟩
def text1 : List UInt8 := [112, 108, 97, 110, 32, 49, 32, 49, 32, 49, 32, 50, 32, 52, 32, 50, 32, 56, 10, 111, 112, 32, 52, 32, 48, 32, 48, 48, 48, 48, 48, 48, 48, 48, 48, 48, 48, 48, 48, 48, 48, 48, 10, 112, 114, 111, 100, 117, 99, 101, 32, 48, 32, 55, 32, 52, 48, 49, 52, 48, 48, 48, 48, 48, 48, 48, 48, 48, 48, 48, 48, 10, 35, 10, 116, 105, 99, 107, 10]
def text1' : List UInt8 := [112, 108, 97, 110, 32, 49, 32, 49, 32, 49, 32, 50, 32, 52, 32, 50, 32, 56, 10, 111, 112, 32, 52, 32, 48, 32, 48, 48, 48, 48, 48, 48, 48, 48, 48, 48, 48, 48, 48, 48, 48, 48, 10, 112, 114, 111, 100, 117, 99, 101, 32, 48, 32, 55, 32, 52, 48, 49, 52, 48, 48, 48, 48, 48, 48, 48, 48, 48, 48, 48, 48, 10, 116, 105, 99, 107, 10]
def text2 : List UInt8 := [112, 108, 97, 110, 32, 49, 32, 49, 32, 49, 32, 50, 32, 52, 32, 50, 32, 56, 10, 116, 105, 99, 107, 32, 49]
def text3 : List UInt8 := [116, 105, 99, 107]
theorem ends1 : ends (linesP wp1 [wt0, wt1]) = text1' := by
  simp only [linesP, wp1_line, show wp1.ops = [wo0] from rfl, List.map_cons, List.map_nil, List.cons_append, List.nil_append, ends_cons, ends_nil, wp0_line, wo0_line, wt0_line, wt1_line]
  rfl
theorem run1 : runL rs0 [planLine wp0] = .ok ⟨wp0, [], true⟩ := by
  have := run_lines (p := wp0) (steps := []) ⟨fun n hn => wp1_wf.nums n hn, fun o ho => by cases ho⟩ (by decide) (fun t ht => by cases ht)
  exact this
theorem parse1 : parseText text1 = ⟨wp1, [wt0, wt1], 0, 0⟩ := by
  have hcut : cutAt 10 [] text1 = [planLine wp0, opLine wo0, stepLine wt0, [35], stepLine wt1, []] := by
    rw [wp0_line, wo0_line, wt0_line, wt1_line]; rfl
  have hr : runL rs0 [planLine wp0, opLine wo0, stepLine wt0, [35], stepLine wt1, []] = .ok ⟨wp1, [wt0, wt1], true⟩ := by
    rw [show [planLine wp0, opLine wo0, stepLine wt0, [35], stepLine wt1, []] = [planLine wp0] ++ [opLine wo0, stepLine wt0, [35], stepLine wt1, []] from rfl, runL_append _ _ _ run1]
    rw [runL, stepL_op rfl rfl (wp1_wf.ops wo0 (by simp [wp1]))]
    simp only
    rw [runL, stepL_step rfl (by decide) (wt_ok wt0 (by simp))]
    simp only
    rw [runL, show stepL _ [35] = .ok _ from rfl]
    simp only
    rw [runL, stepL_step rfl (by decide) (wt_ok wt1 (by simp))]
    rfl
  have hp := parseL_run _ rs0 0 [] hr
  rw [List.append_nil] at hp
  unfold parseText
  rw [if_neg (by decide), hcut, hp]
  rfl
theorem print1 : printSpec wp1 [wt0, wt1] = .ok text1' := by
  rw [print_ok (by decide) (fun t ht => ⟨(wt_ok t ht).1, (wt_ok t ht).2.1, (wt_ok t ht).2.2.1⟩), ends1]
  rfl
theorem parse2 : parseText text2 = ⟨zeroPlan, [], 2, 211⟩ := by
  have hcut : cutAt 10 [] text2 = [planLine wp0] ++ [[116, 105, 99, 107, 32, 49]] := by rw [wp0_line]; rfl
  have hs : stepL ⟨wp0, [], true⟩ [116, 105, 99, 107, 32, 49] = .error 211 := by
    unfold stepL
    rw [if_neg (by decide), blanks_eq]
    rfl
  unfold parseText
  rw [if_neg (by decide), hcut, parseL_run _ _ _ _ run1, parseL, hs]
  rfl
theorem parse3 : parseText text3 = ⟨zeroPlan, [], 1, 210⟩ := by
  have hcut : cutAt 10 [] text3 = [[116, 105, 99, 107]] := rfl
  have hs : stepL rs0 [116, 105, 99, 107] = .error 210 := by
    unfold stepL
    rw [if_neg (by decide), blanks_eq]
    rfl
  unfold parseText
  rw [if_neg (by decide), hcut, parseL, hs]
end Go.Proofs.YtgfbkmclekafbaaGreatDoor

/- awake: true. -/
set_option maxRecDepth 100000
namespace Go.Proofs.YtgfbkmclekafbaaGreatDoor
open Go Go.Vc

theorem PRes.cellsO {w w' : World} {R : ParseR} {oq : Option Addr} {ol oc : Nat} {sq : Option Addr} {sl sc : Nat} (h : PRes w w' R oq ol oc sq sl sc) : Cells w' oq (opsCells R.p.ops) := h.ops.cells
theorem PRes.cellsS {w w' : World} {R : ParseR} {oq : Option Addr} {ol oc : Nat} {sq : Option Addr} {sl sc : Nat} (h : PRes w w' R oq ol oc sq sl sc) : Cells w' sq (stepsCells R.steps) := h.steps.cells

theorem awake_el {w : World} {K : Value → World → Prop} {X : List PanicEntry → World → Prop} (hw : Lw w) (h : ∀ w', Ext w w' → K (.bool true) w') : call P n_repriselaw21_awake [] w K X := by
  refine repriselaw21_awake.call ?_
  unfold repriselaw21_awake.F
  refine parseR_el hw (by decide) parse1 (fun oq ol oc sq sl sc w1 hp => ?_)
  have hw1 := hw.ext hp.ext
  refine al_el fun k1 w2 hk1 hb1 hx1 hs1 => ?_
  refine st_el hb1 (by simp) fun w3 h3 hu3 hs3 => ?_
  have hx3 : Ext w1 w3 := Ext.upd hx1 hu3 (fun i hi => by omega)
  have h3' : w3.heap[k1]? = some (.cells (wp1.cells oq ol oc).toArray 24 (0, 0)) := h3
  refine ld_blk h3' (v := .int .i64 1) rfl ?_
  refine ld_blk h3' (v := .int .i64 1) rfl ?_
  refine ld_blk h3' (v := .int .i64 1) rfl ?_
  refine ld_blk h3' (v := .slice oq ol oc) rfl ?_
  refine ld_blk h3' (v := .int .i64 2) rfl ?_
  refine ld_blk h3' (v := .int .i64 4) rfl ?_
  refine ld_blk h3' (v := .int .i64 2) rfl ?_
  refine ld_blk h3' (v := .int .i64 8) rfl ?_
  have hw3 := hw1.ext hx3
  have hop := hp.cellsO.ext hx3
  have hst := hp.cellsS.ext hx3
  refine print_el (p := wp1) (steps := [wt0, wt1]) hw3 wp1_wf hop hp.nops hst hp.nsteps (fun t ht => (wt_ok t ht).2.2.2) (by decide) (by decide) (fun w4 hx4 => ?_)
  rw [print1]
  have hw4 := hw3.ext hx4
  refine parseR_el hw4 (by decide) parse2 (fun oq2 ol2 oc2 sq2 sl2 sc2 w5 hp2 => ?_)
  refine al_el fun k2 w6 hk2 hb2 hx6 hs6 => ?_
  refine st_el hb2 (by simp) fun w7 h7 hu7 hs7 => ?_
  have hx7 : Ext w5 w7 := Ext.upd hx6 hu7 (fun i hi => by omega)
  have hw7 := (hw4.ext hp2.ext).ext hx7
  refine parseR_el hw7 (by decide) parse3 (fun oq3 ol3 oc3 sq3 sl3 sc3 w8 hp3 => ?_)
  refine al_el fun k3 w9 hk3 hb3 hx9 hs9 => ?_
  refine st_el hb3 (by simp) fun w10 h10 hu10 hs10 => ?_
  have hx10 : Ext w8 w10 := Ext.upd hx9 hu10 (fun i hi => by omega)
  have hxx : Ext w3 w10 := ((((hx4.trans hp2.ext).trans hx7).trans hp3.ext).trans hx10)
  have h10' := hxx.blk h3' (fun h => h)
  have hfin : Ext w w10 := (hp.ext.trans hx3).trans hxx
  intro K1 hK1
  refine if_t rfl (hK1 _ _ fun _ => ?_)
  intro K2 hK2
  refine if_t rfl ?_
  refine ld_blk h10' (v := .int .i64 8) rfl ?_
  refine hK2 _ _ fun _ => ?_
  intro K3 hK3
  refine if_t rfl ?_
  refine ld_blk h10' (v := .slice oq ol oc) rfl ?_
  refine hK3 _ _ fun _ => ?_
  intro K4 hK4
  refine if_t (by rw [iEq_t, lenN_el, hp.nops]; rfl) ?_
  refine al_el fun k4 w11 hk4 hb4 hx11 hs11 => ?_
  have hst' := (hst.ext hxx).ext hx11
  refine same_el (l := [wt0, wt1]) (m := [wt0, wt1]) hst' ?_ hp.nsteps rfl (by decide) (fun b w12 hb hx12 => ?_)
  · exact .inr ⟨_, rfl, rfl, fun j hj => by
      rw [add_pl]; refine cell_blk hb4 ?_
      rw [Nat.zero_add, ← Array.getElem?_toList]; exact List.getElem?_eq_getElem hj⟩
  obtain rfl : b = true := hb.2 rfl
  refine hK4 _ _ fun _ => ?_
  intro K5 hK5
  refine if_t rfl (hK5 _ _ fun _ => ?_)
  intro K6 hK6
  refine if_t rfl ?_
  have hse : sEq (⟨text1'.toArray⟩ : ByteArray) (bs text1') = true := by rw [sEq_t]; rfl
  show K6 [.bool (sEq (⟨text1'.toArray⟩ : ByteArray) (bs text1'))] w12
  rw [hse]
  refine hK6 _ _ fun _ => ?_
  intro K7 hK7
  refine if_t rfl (hK7 _ _ fun _ => ?_)
  intro K8 hK8
  refine if_t rfl (hK8 _ _ fun _ => ?_)
  intro K9 hK9
  refine if_t rfl (hK9 _ _ fun _ => ?_)
  intro K10 hK10
  refine if_t rfl (hK10 _ _ fun _ => ?_)
  exact h w12 ((hfin.trans hx11).trans hx12)
end Go.Proofs.YtgfbkmclekafbaaGreatDoor

/- Plain laws: what is read is printed again. -/
set_option maxRecDepth 100000
namespace Go.Proofs.YtgfbkmclekafbaaGreatDoor
open Go Go.Vc

def kept (ls : List (List UInt8)) : List (List UInt8) := ls.filter fun x => !skipL x
def Rep (r : RS) (xs : List (List UInt8)) : Prop := (r = rs0 ∧ xs = []) ∨ (r.began = true ∧ r.p.wf ∧ (∀ t ∈ r.steps, StOk t) ∧ r.steps.length ≤ 4096 ∧ xs = linesP r.p r.steps)

theorem rep_line {r r' : RS} {xs : List (List UInt8)} {x : List UInt8} (hr : Rep r xs) (h : lineSpec r (blanks (mk x)) = .ok r') : Rep r' (xs ++ [x]) := by
  obtain ⟨w, args, hb, hx⟩ := line_blanks x
  rw [hb] at h
  unfold lineSpec at h
  simp only [List.map_cons] at h
  split at h
  · rename_i hbg
    rcases hr with ⟨rfl, rfl⟩ | ⟨hb', _⟩
    · by_cases hw : (mk w).data.toList = planWord
      · rw [if_pos hw] at h
        by_cases hl : (List.map mk args).length = 7
        · rw [if_pos hl] at h
          have hl' : args.length = 7 := by simpa using hl
          cases hp : setNums rs0.p 0 (List.map mk args) with
          | none => rw [hp] at h; cases h
          | some p =>
            rw [hp] at h
            cases h
            obtain ⟨ha, hn⟩ := setNums_fwd hl' hp
            have hops : p.ops = [] := setNums_ops _ _ _ hp
            refine .inr ⟨rfl, ⟨hn, fun o ho => ?_⟩, fun t ht => ?_, by show (rs0.steps).length ≤ _; decide, ?_⟩
            · simp only [hops] at ho; cases ho
            · cases ht
            · rw [hx, show w = planWord from hw, ha]
              simp [linesP, hops, planLine, rs0]
        · rw [if_neg hl] at h; cases h
      · rw [if_neg hw] at h; cases h
    · rw [hb'] at hbg; cases hbg
  · rename_i hbg
    rcases hr with ⟨rfl, rfl⟩ | ⟨hb', hpw, hst, hsl, hxs⟩
    · exact absurd rfl hbg
    · by_cases hop : (mk w).data.toList = opWord ∧ r.steps = []
      · rw [if_pos hop] at h
        cases ho : opOf (List.map mk args) with
        | none => rw [ho] at h; cases h
        | some o =>
          rw [ho] at h
          cases h
          obtain ⟨ha, how⟩ := opOf_fwd ho
          refine .inr ⟨hb', ⟨hpw.nums, fun o' ho' => ?_⟩, hst, hsl, ?_⟩
          · simp only [List.mem_append, List.mem_singleton] at ho'
            rcases ho' with ho' | rfl
            · exact hpw.ops o' ho'
            · exact how
          · have hpl : planLine { r.p with ops := r.p.ops ++ [o] } = planLine r.p := rfl
            rw [hxs, hx, show w = opWord from hop.1, ha]
            simp [linesP, hop.2, hpl, opLine]
      · rw [if_neg hop] at h
        by_cases hlt : r.steps.length < 4096
        · rw [if_pos hlt] at h
          have e : (List.map mk args).map (fun x => x.data.toList) = args := by rw [List.map_map]; simp [Function.comp_def, mk_list]
          rw [e, mk_list] at h
          cases ht : stepSpec w args with
          | error e => rw [ht] at h; cases h
          | ok t =>
            rw [ht] at h
            cases h
            obtain ⟨h1, h2, h3, h4, h5, h6⟩ := step_fwd ht
            refine .inr ⟨hb', hpw, fun t' ht' => ?_, by simp only [List.length_append, List.length_cons, List.length_nil]; omega, ?_⟩
            · simp only [List.mem_append, List.mem_singleton] at ht'
              rcases ht' with ht' | rfl
              · exact hst t' ht'
              · exact ⟨h3, h4, h5, h6⟩
            · rw [hxs, hx, h1, h2]
              simp [linesP, stepLine]
        · rw [if_neg hlt] at h; cases h
theorem rep_run : ∀ (ls : List (List UInt8)) (r : RS) (xs : List (List UInt8)) {r' : RS}, Rep r xs → runL r ls = .ok r' → Rep r' (xs ++ kept ls)
  | [], r, xs, r', hr, h => by simp only [runL, Except.ok.injEq] at h; subst h; simpa [kept] using hr
  | x :: t, r, xs, r', hr, h => by
    rw [runL] at h
    split at h
    · rename_i r1 h1
      unfold stepL at h1
      split at h1
      · rename_i hs
        cases h1
        have : kept (x :: t) = kept t := by simp [kept, hs]
        rw [this]
        exact rep_run t _ xs hr h
      · rename_i hs
        have : kept (x :: t) = x :: kept t := by simp [kept, hs]
        rw [this]
        have := rep_run t r1 (xs ++ [x]) (rep_line hr h1) h
        simpa using this
    · cases h
theorem emit_skip (x : List UInt8) : emit x = if skipL x = true then [] else x ++ [10] := by
  cases x with
  | nil => rfl
  | cons c r => rw [emit_cons]; by_cases h : c = 35 <;> simp [skipL, h]
theorem bare_eq : ∀ (l cur out : List UInt8), bareF out cur l = out ++ ends (kept (cutAt 10 cur l))
  | [], cur, out => by
    rw [bareF, cutAt, emit_skip]
    by_cases h : skipL cur = true <;> simp [kept, h, ends]
  | c :: r, cur, out => by
    rw [bareF, cutAt]
    split
    · rw [bare_eq r [] _, emit_skip]
      by_cases h : skipL cur = true <;> simp [kept, h, ends]
    · rw [bare_eq r _ _]
theorem cutAt_pos {c : UInt8} : ∀ (l cur : List UInt8), 1 ≤ (cutAt c cur l).length
  | [], cur => by simp [cutAt]
  | x :: r, cur => by
    rw [cutAt]; split
    · simp
    · exact cutAt_pos r _
theorem forth_ok {l : List UInt8} (h : (parseText l).e = 0) : (parseText l).at_ = 0 ∧ (parseText l).p.wf ∧ (∀ t ∈ (parseText l).steps, StOk t) ∧ (parseText l).steps.length ≤ 4096 ∧ ends (linesP (parseText l).p (parseText l).steps) = bareF [] [] l := by
  unfold parseText at h ⊢
  split at h
  · cases h
  · rename_i hl
    rw [if_neg hl]
    split at h
    · rename_i r n hp
      split at h
      · rename_i hb
        rw [if_pos hb]
        obtain ⟨hr, _⟩ := run_parseL _ _ _ hp
        have := rep_run _ rs0 [] (.inl ⟨rfl, rfl⟩) hr
        rcases this with ⟨rfl, _⟩ | ⟨_, hpw, hst, hsl, hxs⟩
        · cases hb
        · refine ⟨rfl, hpw, hst, hsl, ?_⟩
          rw [bare_eq, ← hxs]; rfl
      · cases h
    · rename_i e n hp
      simp only at h
      obtain ⟨_, s, x, hs⟩ := parseL_err _ _ _ hp
      rcases stepL_err hs with h' | h' | h' <;> omega
theorem forth_no {l : List UInt8} (h : (parseText l).e ≠ 0) : (parseText l).p = zeroPlan ∧ (parseText l).steps = [] ∧ ((parseText l).at_ = 0 ↔ (parseText l).e = 6) ∧ ((parseText l).e = 6 ↔ 262144 < l.length) := by
  unfold parseText at h ⊢
  split at h
  · rename_i hl; rw [if_pos hl]; exact ⟨rfl, rfl, by simp, by simp [hl]⟩
  · rename_i hl
    rw [if_neg hl]
    split at h
    · rename_i r n hp
      split at h
      · exact absurd rfl h
      · rename_i hb
        rw [if_neg hb]
        obtain ⟨_, hn⟩ := run_parseL _ _ _ hp
        have := cutAt_pos (c := 10) l []
        refine ⟨rfl, rfl, ?_, ?_⟩
        · constructor
          · intro hh; simp only at hh; omega
          · intro hh; simp at hh
        · constructor
          · intro hh; simp at hh
          · intro hh; exact absurd hh hl
    · rename_i e n hp
      obtain ⟨hn, s, x, hs⟩ := parseL_err _ _ _ hp
      have he := stepL_err hs
      refine ⟨rfl, rfl, ?_, ?_⟩
      · constructor
        · intro hh; simp only at hh; omega
        · intro hh; simp only at hh; omega
      · constructor
        · intro hh; simp only at hh; omega
        · intro hh; exact absurd hh hl
end Go.Proofs.YtgfbkmclekafbaaGreatDoor
