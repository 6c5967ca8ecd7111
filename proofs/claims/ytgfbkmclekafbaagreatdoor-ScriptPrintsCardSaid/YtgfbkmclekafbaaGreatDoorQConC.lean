/- The lines of a text, one by one: what strings.SplitSeq hands to each round. -/
import Derived.Test.YtgfbkmclekafbaaGreatDoorQConB
import Derived.Test.YtgfbkmclekafbaaGreatDoorQReadD
set_option linter.unusedVariables false
set_option linter.unusedSimpArgs false
set_option linter.unnecessarySimpa false
set_option maxRecDepth 100000
namespace Go.Proofs.YtgfbkmclekafbaaGreatDoor
open Go Go.Vc

def mk (l : List UInt8) : ByteArray := ⟨l.toArray⟩
theorem mk_list (l : List UInt8) : (mk l).data.toList = l := rfl
theorem mk_of (s : ByteArray) : mk s.data.toList = s := by rw [mk, mk_data]
theorem mk_size (l : List UInt8) : (mk l).size = l.length := by rw [size_len, mk_list]
/-- cut at a byte -/
def cutAt (c : UInt8) : List UInt8 → List UInt8 → List (List UInt8)
  | cur, [] => [cur]
  | cur, x :: r => if x = c then cur :: cutAt c [] r else cutAt c (cur ++ [x]) r
theorem cutAt_miss {c : UInt8} : ∀ (l cur : List UInt8), Lib.indexByte l c = -1 → cutAt c cur l = [cur ++ l]
  | [], cur, h => by simp [cutAt]
  | x :: r, cur, h => by
    unfold Lib.indexByte at h
    split at h
    · cases h
    · rename_i hx
      have hge := Lib.indexByte_ge r c
      have hr : Lib.indexByte r c = -1 := by
        split at h
        · rename_i hh; exact beq_iff_eq.1 hh
        · omega
      rw [cutAt, if_neg (by simpa using hx), cutAt_miss r _ hr]
      simp
theorem cutAt_hit {c : UInt8} : ∀ (l cur : List UInt8) (i : Nat), Lib.indexByte l c = (i : Int) → i < l.length ∧ cutAt c cur l = (cur ++ l.take i) :: cutAt c [] (l.drop (i + 1))
  | [], cur, i, h => by unfold Lib.indexByte at h; omega
  | x :: r, cur, i, h => by
    unfold Lib.indexByte at h
    split at h
    · rename_i hx
      obtain rfl : i = 0 := by omega
      refine ⟨by simp, ?_⟩
      rw [cutAt, if_pos (by simpa using hx)]; simp
    · rename_i hx
      have hge := Lib.indexByte_ge r c
      split at h
      · omega
      · rename_i hne
        have hne' : Lib.indexByte r c ≠ -1 := by simpa using hne
        obtain ⟨j, rfl⟩ : ∃ j, i = j + 1 := ⟨i - 1, by omega⟩
        obtain ⟨h1, h2⟩ := cutAt_hit (c := c) r (cur ++ [x]) j (by omega)
        refine ⟨by simpa using h1, ?_⟩
        rw [cutAt, if_neg (by simpa using hx), h2]
        simp
theorem cutAt_len {c : UInt8} : ∀ (l cur x : List UInt8), x ∈ cutAt c cur l → x.length ≤ cur.length + l.length
  | [], cur, x, h => by simp [cutAt] at h; simp [h]
  | y :: r, cur, x, h => by
    rw [cutAt] at h
    split at h
    · rcases List.mem_cons.1 h with rfl | h
      · omega
      · have := cutAt_len r [] x h; simp at this ⊢; omega
    · have := cutAt_len r _ x h; simp at this ⊢; omega
theorem splitB_cut (c : UInt8) : ∀ (k : Nat) (s : ByteArray), Lib.countB s (bs [c]) = k → Lib.splitB (bs [c]) 0 k s = (cutAt c [] s.data.toList).map mk
  | 0, s, h => by
    have hi : Lib.indexB s (bs [c]) = -1 := by
      rcases Lib.indexB_cases s (bs [c]) with hi | ⟨i, hi, _⟩
      · exact hi
      · have := Lib.countB_hit s (bs [c]) i (Nat.le_refl 1) hi; omega
    rw [Lib.splitB_zero, cutAt_miss _ _ (by rw [← Lib.index_one]; exact hi)]
    simp [mk_of]
  | k + 1, s, h => by
    rcases Lib.indexB_cases s (bs [c]) with hi | ⟨i, hi, _⟩
    · have := Lib.countB_miss s (bs [c]) hi; omega
    · have hc := Lib.countB_hit s (bs [c]) i (Nat.le_refl 1) hi
      obtain ⟨h1, h2⟩ := cutAt_hit s.data.toList [] i (by rw [← Lib.index_one]; exact hi)
      rw [Lib.splitB_hit _ _ _ _ i hi, splitB_cut c k _ (by omega), h2, List.map_cons]
      have e1 : s.extract 0 (i + 0) = mk ([] ++ s.data.toList.take i) := by
        rw [← mk_of (s.extract 0 (i + 0)), Lib.extract_from_zero]; rfl
      have e2 : (s.extract (i + (bs [c]).size) s.size).data.toList = s.data.toList.drop (i + 1) := by
        rw [Lib.extract_to_end]; rfl
      rw [e1, e2]
theorem blanks_eq (s : ByteArray) : blanks s = (cutAt 32 [] s.data.toList).map mk := splitB_cut 32 _ s rfl
theorem linesOf_eq (s : ByteArray) : linesOf s = (cutAt 10 [] s.data.toList).map mk := splitB_cut 10 _ s rfl

/-- the ranged function: it yields the lines -/
theorem splitSeq1_el {yv : Value} {b0 b1 b2 : Nat} (I : List (List UInt8) → World → Prop) {K : Value → World → Prop} {X : List PanicEntry → World → Prop}
    (hI : ∀ rest w, I rest w → w.heap[b0]? = some (.cells #[.string (bs [10])] 9 (0, 0)) ∧ w.heap[b2]? = some (.cells #[.int .i64 0] 3 (0, 0)))
    (hst : ∀ rest w w', I rest w → Upd (fun i => i = b1) w w' → I rest w')
    (hY : ∀ x rest w K', I (x :: rest) w → (∀ w', I rest w' → w'.heap[b1]? = w.heap[b1]? → K' (.bool true) w') → callV P yv [.string (mk x)] w K' X)
    {l : List UInt8} {w : World} (hl : l.length < 4294967281) (hw : I (cutAt 10 [] l) w) (h1 : w.heap[b1]? = some (.cells #[.string (mk l)] 9 (0, 0)))
    (hK : ∀ w', I [] w' → K (.tuple #[]) w') : call P n_strings_splitSeq_1 [yv, .pointer (some ⟨b0, 0, none⟩), .pointer (some ⟨b1, 0, none⟩), .pointer (some ⟨b2, 0, none⟩)] w K X := by
  refine strings_splitSeq_1.call ?_
  unfold strings_splitSeq_1.F
  refine ld_blk (hI _ _ hw).1 (v := .string (bs [10])) rfl ?_
  rw [asS_at]
  refine if_f rfl ?_
  intro L2 hL2
  have go : ∀ (k : Nat) (l : List UInt8) (w : World), l.length ≤ k → l.length < 4294967281 → I (cutAt 10 [] l) w → w.heap[b1]? = some (.cells #[.string (mk l)] 9 (0, 0)) → L2 [] w := by
    intro k
    induction k with
    | zero =>
      intro l w hk hl hw h1
      refine hL2 w fun _ => ?_
      refine ld_blk h1 (v := .string (mk l)) rfl ?_
      refine ld_blk (hI _ _ hw).1 (v := .string (bs [10])) rfl ?_
      refine call_calls (Tryz.strings_Index_one (mk l) 10 w) ?_
      rintro e w' ⟨rfl, rfl⟩
      obtain rfl : l = [] := List.eq_nil_of_length_eq_zero (by omega)
      simp only [onRet, asI_at]
      refine if_t rfl ?_
      refine ld_blk h1 (v := .string (mk [])) rfl ?_
      exact hY [] [] _ _ hw fun w' hw' _ => hK w' hw'
    | succ k ih =>
      intro l w hk hl hw h1
      refine hL2 w fun _ => ?_
      refine ld_blk h1 (v := .string (mk l)) rfl ?_
      refine ld_blk (hI _ _ hw).1 (v := .string (bs [10])) rfl ?_
      refine call_calls (Tryz.strings_Index_one (mk l) 10 w) ?_
      rintro e w' ⟨rfl, rfl⟩
      have hge := Lib.indexByte_ge l 10
      simp only [onRet, asI_at, mk_list]
      by_cases hm : Lib.indexByte l 10 = -1
      · rw [hm]
        refine if_t rfl ?_
        refine ld_blk h1 (v := .string (mk l)) rfl ?_
        rw [cutAt_miss _ _ hm] at hw
        exact hY l [] _ _ hw fun w' hw' _ => hK w' hw'
      · obtain ⟨i, hi⟩ : ∃ i : Nat, Lib.indexByte l 10 = (i : Int) := ⟨(Lib.indexByte l 10).toNat, by omega⟩
        obtain ⟨hil, hcut⟩ := cutAt_hit l [] i hi
        rw [hi]
        refine if_f (by rw [iLt_f]; omega) ?_
        refine ld_blk h1 (v := .string (mk l)) rfl ?_
        refine ld_blk (hI _ _ hw).2 (v := .int .i64 0) rfl ?_
        have e1 : iAdd .i64 (i : Int) 0 = (i : Int) := by rw [iAdd_i64 (by omega) (by omega)]; omega
        rw [asI_at, e1]
        refine ⟨by unfold inC; rw [mk_size]; omega, ?_⟩
        rw [hcut] at hw
        have e2 : cutS (mk l) 0 (Int.toNat (i : Int)) = mk ([] ++ l.take i) := by
          rw [← mk_of (cutS _ _ _), cutS_data, mk_list, Int.toNat_natCast]; simp
        rw [e2]
        refine hY _ _ _ _ hw fun w2 hw2 hb2 => ?_
        show asB (.bool true) _
        rw [asB_at]
        refine if_f rfl ?_
        have h12 : w2.heap[b1]? = some (.cells #[.string (mk l)] 9 (0, 0)) := hb2.trans h1
        refine ld_blk h12 (v := .string (mk l)) rfl ?_
        refine ld_blk (hI _ _ hw2).1 (v := .string (bs [10])) rfl ?_
        have e3 : iAdd .i64 (i : Int) (lenN (ByteArray.size (bs [10]))) = ((i + 1 : Nat) : Int) := by
          show iAdd .i64 (i : Int) 1 = _
          rw [iAdd_i64 (by omega) (by omega)]; omega
        simp only [asS_at, e3]
        refine ⟨by unfold inC; rw [mk_size]; omega, ?_⟩
        have e4 : cutS (mk l) (Int.toNat ((i + 1 : Nat) : Int)) (mk l).size = mk (l.drop (i + 1)) := by
          rw [← mk_of (cutS _ _ _), cutS_data, mk_list, Int.toNat_natCast, mk_size, List.take_length]
        rw [e4]
        refine st1_el h12 (by simp) fun w3 h3 hu3 hsz3 => ?_
        refine ih (l.drop (i + 1)) w3 (by rw [List.length_drop]; omega) (by rw [List.length_drop]; omega) (hst _ _ _ hw2 hu3) h3
  exact go l.length l w (Nat.le_refl _) hl hw h1
end Go.Proofs.YtgfbkmclekafbaaGreatDoor

/- The function that Parse defers; a round of its loop. -/
set_option maxRecDepth 100000
namespace Go.Proofs.YtgfbkmclekafbaaGreatDoor
open Go Go.Vc

noncomputable abbrev C27 : Code := Tryz.f27.body.getD .skip
noncomputable def ops27 : Array Oper := match C27.pl with | .region _ o _ => o | _ => #[]
theorem C27_s : C27 = .seq C27.pl C27.pr := by kernel_rfl
theorem C27_l : C27.pl = .region 0 ops27 false := by kernel_rfl
theorem ops27_0 : ops27[0]?.map (fun o => (o.guard, o.dst)) = some (none, some 6) := by kernel_rfl
theorem ops27_n : List.range ops27.size = 0 :: [1, 2, 3, 4, 5, 6, 7] := by kernel_rfl
noncomputable def o27 : Oper := (ops27[0]?).getD { dst := none, op := .move (.tmp 0), type := 0, pos := "", after := #[], guard := none }
theorem o27_at : ops27[0]? = some o27 := by kernel_rfl
theorem o27_g : o27.guard = none := by kernel_rfl
theorem o27_d : o27.dst = some 6 := by kernel_rfl
theorem o27_op : o27.op = .call { callee := .builtin .recover, args := #[], argTypes := #[] } := by kernel_rfl
theorem o27_run (a : Act) (w : World) : (execOp a.eval o27).run P w = .ok .recover w := by
  unfold execOp
  simp only [o27_op]
  rfl
def ri27 : RI := .op 1 [] (.op 2 [] (.op 3 [] (.op 4 [] (.op 5 [] (.op 6 [] (.op 7 [] .nil))))))
theorem Qa_vcR {Q : Post} {e : Env} {w : World} : vc P Qa.ann C27.pl Q e w = vcR P ops27 (fun c w => Q (.panic c) e w) ri27 e w (fun e' w' => Q .normal e' w') := by kernel_rfl
theorem ri27_chk : ri27.chk 14 ops27 = true := by kernel_rfl
theorem mild27 : mildAt ops27 [1, 2, 3, 4, 5, 6, 7] = true := by kernel_rfl
theorem dsts27 : dsts ops27 [1, 2, 3, 4, 5, 6, 7] = [7, 5, 8, 9, 3, 4] := by kernel_rfl
def zeroCells : List Value := zeroPlan.cells none 0 0

/-- behind the recover -/
theorem rest27 {Q : Exit → Act → List Frame → World → Prop} {a : Act} {cs : List Frame} {w : World} {v6 : Value} {N : List Value → World → Prop} (hn : a.tmps.size = 14) (hD : a.defers = []) (h6 : ofAct a 6 = v6)
    (h : Qa.F v6 w N (fun _ => False) (fun _ _ => False))
    (hN : ∀ a' w', a'.tmps.size = 14 → a'.defers = [] → (∀ t, t = 0 ∨ t = 1 ∨ t = 2 → ofAct a' t = ofAct a t) → N [ofAct a' 4, ofAct a' 3] w' → Q .normal a' cs w') :
    wpOpsSIn Fence.wide 0 P ops27 Q [1, 2, 3, 4, 5, 6, 7] a cs w := by
  refine opsS_mild _ mild27 a w ?_
  have hv : vc P Qa.ann C27.pl (pieceQ [4, 3] N (fun _ => False) (fun _ _ => False)) (ofAct a) w := by
    rw [← set_self h6]; exact Eq.mp Qa.eq h
  rw [Qa_vcR] at hv
  have := vcR_ops (Q := fun e a w => Q e a cs w) good.plain (D := []) (X := fun c w => pieceQ [4, 3] N (fun _ => False) (fun _ _ => False) (.panic c) (ofAct a) w) (n := 14) (fun c a' w' _ _ hh => hh.elim) ri27 a w _ [] ri27_chk hn hD hv
    (fun a' w' h1 h2 h3 h4 => hN a' w' h1 h2 (fun t ht => h3 t (by
      show t ∉ dsts ops27 [1, 2, 3, 4, 5, 6, 7]
      rw [dsts27]; rcases ht with rfl | rfl | rfl <;> decide)) h4)
  exact this

theorem typeAssert_no {w : World} : (Instr.typeAssert .nilIface 20 68 true).run P w = .ok (.tuple #[.agg #[.int .i64 0], .bool false]) w := by kernel_rfl
theorem typeAssert_yes {w : World} {e : Int} : (Instr.typeAssert (.iface 68 (.agg #[.int .i64 e])) 20 68 true).run P w = .ok (.tuple #[.agg #[.int .i64 e], .bool true]) w := by kernel_rfl
theorem putObj_upd {S : Nat → Prop} {w : World} {l : Nat} {o : Obj} (h : S l) : Upd S w (w.putObj l o) :=
  ⟨rfl, rfl, rfl, by simp, fun i _ hi => World.putObj_heap_other (fun he => hi (he ▸ h))⟩
theorem act27 {p0 p1 p2 v : Value} (a : Act) (ha : ({ tmps := #[p0, p1, p2] ++ Array.replicate (14 - (#[p0, p1, p2] : Array Value).size) undef, defers := [] } : Act).put (some 6) v = a) :
    a.tmps.size = 14 ∧ a.defers = [] ∧ ofAct a 6 = v ∧ ofAct a 0 = p0 ∧ ofAct a 1 = p1 ∧ ofAct a 2 = p2 := by
  subst ha
  have hs : ({ tmps := #[p0, p1, p2] ++ Array.replicate (14 - (#[p0, p1, p2] : Array Value).size) undef, defers := [] } : Act).tmps.size = 14 := by simp
  have he := argE_eq [p0, p1, p2] (14 - (#[p0, p1, p2] : Array Value).size) []
  rw [ofAct_put (by rw [hs]; decide)]
  refine ⟨by rw [size_put, hs], rfl, by simp [Env.set], ?_, ?_, ?_⟩ <;>
    (rw [set_other (by decide)]; exact (congrFun he _).trans rfl)
theorem C27_nt : Tryz.f27.ntmps = 14 := by kernel_rfl
theorem C27_res (tmps : Array Value) (w : World) : (results Tryz.f27 tmps).run P w = .ok (.tuple #[]) w := by kernel_rfl

/-- the cells of a plan, all nought -/
theorem zero_set (cs : Array Value) (h : cs.size = 8) : (setFrom cs.toList 0 [.int .i64 0, .int .i64 0, .int .i64 0, .slice none 0 0, .int .i64 0, .int .i64 0, .int .i64 0, .int .i64 0]).toArray = zeroCells.toArray := by
  obtain ⟨l⟩ := cs
  simp at h
  match l, h with
  | [_, _, _, _, _, _, _, _], _ => rfl
theorem one_set (cs : Array Value) (h : cs.size = 1) (v : Value) : cs.setIfInBounds 0 v = #[v] := by
  obtain ⟨l⟩ := cs
  simp at h
  match l, h with
  | [_], _ => rfl

theorem rest27b {Q : Exit → Act → World → Prop} {a : Act} {w : World} {b0 b1 b2 k : Nat} {b : Bool} {N : List Value → World → Prop} (hn : a.tmps.size = 14) (hD : a.defers = []) (e0 : ofAct a 0 = .pointer (some ⟨b0, 0, none⟩)) (e1 : ofAct a 1 = .pointer (some ⟨b1, 0, none⟩)) (e2 : ofAct a 2 = .pointer (some ⟨b2, 0, none⟩))
    (e3 : ofAct a 3 = .pointer (some ⟨k, 0, none⟩)) (e4 : ofAct a 4 = .bool b) (hF : Qb.F b0 b1 b2 k b w N (fun _ => False) (fun _ _ => False))
    (hN : ∀ a' w', a'.defers = [] → N [] w' → Q .normal a' w') : C27.pr.wp P Q a w := by
  have he : Env.set (Env.set (Env.set (Env.set (Env.set (ofAct a) 0 (.pointer (some ⟨b0, 0, none⟩))) 1 (.pointer (some ⟨b1, 0, none⟩))) 2 (.pointer (some ⟨b2, 0, none⟩))) 3 (.pointer (some ⟨k, 0, none⟩))) 4 (.bool b) = ofAct a := by
    rw [set_self e0, set_self e1, set_self e2, set_self e3, set_self e4]
  have hv := Eq.mp (Qb.eq (e := ofAct a)) hF
  rw [he] at hv
  exact piece_wp (c := C27.pr) (n := 14) (D := []) (ann := Qb.ann) good Qb.ok hn hD hv (fun a' w' _ d _ h => hN a' w' d h) (fun a' w' _ _ _ h => h.elim) (fun ch a' w' _ _ h => h.elim)

/-- it is called with nothing to recover -/
theorem parse1_none {b0 b1 b2 : Nat} {w : World} {R : Ending → FrameMode → World → Prop} (h : ∀ w', Ext w w' → R (.returned (.tuple #[])) .returning w') :
    CallsDIn Fence.wide 0 P n_script_Parse_1 #[.pointer (some ⟨b0, 0, none⟩), .pointer (some ⟨b1, 0, none⟩), .pointer (some ⟨b2, 0, none⟩)] .returning w R := by
  refine callsDIn_of_wpSIn Tryz.func27 (c := C27) (by kernel_rfl) trivial (fun c₀ cs hu => ?_)
  rw [C27_s, C27_nt]
  refine wpSIn_seq ?_
  rw [C27_l]
  refine wpSIn_region ?_
  rw [ops27_n]
  refine recS o27_at o27_g (o27_run _ _) ?_
  have hrec : recoverD (c₀ :: cs) = none := by simp [recoverD, hu]
  rw [hrec]
  simp only [o27_d]
  generalize hact : Act.put _ _ _ = a1
  obtain ⟨g1, g2, g3, g4, g5, g6⟩ := act27 a1 hact
  refine rest27 (v6 := .nilIface) g1 g2 g3 (N := fun vs w' => (∃ k, vs = [.bool false, .pointer (some ⟨k, 0, none⟩)]) ∧ Ext w w') ?_ ?_
  · unfold Qa.F
    refine runV_ok typeAssert_no ?_
    refine al_el fun k w1 hk hb hx hs => ?_
    refine st_el hb (by simp) fun w2 h2 hu2 hs2 => ?_
    exact ⟨⟨_, rfl⟩, Ext.upd hx hu2 (fun i hi => by omega)⟩
  · intro a' w' h1 h2 h3 h4
    obtain ⟨⟨k, hvs⟩, hx⟩ := h4
    simp only [List.cons.injEq, and_true] at hvs
    show C27.pr.wpSIn Fence.wide 0 P _ a' _ w'
    refine wpSIn_of_wpIn rfl ((wpIn_wide (n := 0)).2 (rest27b (N := fun _ w2 => w2 = w') h1 h2 ((h3 0 (.inl rfl)).trans g4) ((h3 1 (.inr (.inl rfl))).trans g5) ((h3 2 (.inr (.inr rfl))).trans g6) hvs.2 hvs.1 (if_f rfl rfl) ?_))
    rintro a2 w2 d2 rfl
    exact ⟨d2, .returning, by rw [← hu], .tuple #[], C27_res _ _, h _ hx⟩

/-- it takes a fault over: the plan and the steps go, the fault's number is laid -/
theorem parse1_fault {b0 b1 b2 : Nat} {e : Int} {w : World} {R : Ending → FrameMode → World → Prop} {cs0 cs1 cs2 : Array Value} (h0 : w.heap[b0]? = some (.cells cs0 24 (0, 0))) (z0 : cs0.size = 8) (h1 : w.heap[b1]? = some (.cells cs1 25 (0, 0))) (z1 : cs1.size = 1)
    (h2 : w.heap[b2]? = some (.cells cs2 27 (0, 0))) (z2 : cs2.size = 1) (n01 : b0 ≠ b1) (n02 : b0 ≠ b2) (n12 : b1 ≠ b2)
    (h : ∀ w' u', settle u' = .returning → Upd (fun i => i = b0 ∨ i = b1 ∨ i = b2) w w' → w'.heap[b0]? = some (.cells zeroCells.toArray 24 (0, 0)) → w'.heap[b1]? = some (.cells #[.slice none 0 0] 25 (0, 0)) → w'.heap[b2]? = some (.cells #[.int .i64 e] 27 (0, 0)) → R (.returned (.tuple #[])) u' w') :
    CallsDIn Fence.wide 0 P n_script_Parse_1 #[.pointer (some ⟨b0, 0, none⟩), .pointer (some ⟨b1, 0, none⟩), .pointer (some ⟨b2, 0, none⟩)] (.panicking (fault e)) w R := by
  have l0 := blk_lt h0
  have l1 := blk_lt h1
  have l2 := blk_lt h2
  refine callsDIn_of_wpSIn Tryz.func27 (c := C27) (by kernel_rfl) trivial (fun c₀ cs hu => ?_)
  rw [C27_s, C27_nt]
  refine wpSIn_seq ?_
  rw [C27_l]
  refine wpSIn_region ?_
  rw [ops27_n]
  refine recS o27_at o27_g (o27_run _ _) ?_
  let c1 : Frame := { c₀ with mode := .panicking [{ v := .iface 68 (.agg #[.int .i64 e]), recovered := true }] }
  have hrec : recoverD (c₀ :: cs) = some (.iface 68 (.agg #[.int .i64 e]), c1 :: cs) := by simp [recoverD, hu, fault, c1]
  rw [hrec]
  simp only [o27_d]
  generalize hact : Act.put _ _ _ = a1
  obtain ⟨g1, g2, g3, g4, g5, g6⟩ := act27 a1 hact
  refine rest27 (v6 := .iface 68 (.agg #[.int .i64 e])) g1 g2 g3 (N := fun vs w' => ∃ k, vs = [.bool true, .pointer (some ⟨k, 0, none⟩)] ∧ Ext w w' ∧ w.heap.size ≤ k ∧ w'.heap[k]? = some (.cells #[.int .i64 e] 68 (0, 0))) ?_ ?_
  · unfold Qa.F
    refine runV_ok typeAssert_yes ?_
    refine al_el fun k w1 hk hb hx hs => ?_
    refine st_el hb (by simp) fun w2 h2 hu2 hs2 => ?_
    exact ⟨k, rfl, Ext.upd hx hu2 (fun i hi => by omega), by omega, h2⟩
  · intro a' w' s1 d1 hun h4
    obtain ⟨k, hvs, hx, hk, hkb⟩ := h4
    simp only [List.cons.injEq, and_true] at hvs
    show C27.pr.wpSIn Fence.wide 0 P _ a' _ w'
    refine wpSIn_of_wpIn rfl ((wpIn_wide (n := 0)).2 (rest27b (N := fun _ w2 => Upd (fun i => i = b0 ∨ i = b1 ∨ i = b2) w w2 ∧ w2.heap[b0]? = some (.cells zeroCells.toArray 24 (0, 0)) ∧ w2.heap[b1]? = some (.cells #[.slice none 0 0] 25 (0, 0)) ∧ w2.heap[b2]? = some (.cells #[.int .i64 e] 27 (0, 0)))
      s1 d1 ((hun 0 (.inl rfl)).trans g4) ((hun 1 (.inr (.inl rfl))).trans g5) ((hun 2 (.inr (.inr rfl))).trans g6) hvs.2 hvs.1 ?_ ?_))
    · unfold Qb.F
      refine if_t rfl ?_
      rintro w1 rfl
      have hxd : Ext w' w'.drew := Ext.drew
      have kb1 := hxd.blk hkb (fun h => h)
      refine ld_blk kb1 (v := .int .i64 e) rfl ?_
      have hb0 := (hx.trans hxd).blk h0 (fun h => h)
      refine st_el hb0 (by simp [z0]) fun w2 g0 u2 q2 => ?_
      rw [zero_set cs0 z0] at g0
      have kb2 := u2.blk kb1 (by omega)
      refine ⟨cell_blk kb2 rfl, ?_⟩
      have hb1 := u2.blk ((hx.trans hxd).blk h1 (fun h => h)) (by omega)
      refine st1_el hb1 (by omega) fun w3 g1 u3 q3 => ?_
      rw [one_set cs1 z1] at g1
      have kb3 := u3.blk kb2 (by omega)
      refine ⟨cell_blk kb3 rfl, ?_⟩
      have hb2 := u3.blk (u2.blk ((hx.trans hxd).blk h2 (fun h => h)) (by omega)) (by omega)
      refine st1_el hb2 (by omega) fun w4 g2 u4 q4 => ?_
      rw [one_set cs2 z2] at g2
      refine ⟨?_, u4.blk (u3.blk g0 (by omega)) (by omega), u4.blk g1 (by omega), g2⟩
      exact (((Ext.to (hx.trans hxd)).trans (u2.mono fun i _ hi => .inl hi)).trans (u3.mono fun i _ hi => .inr (.inl hi))).trans (u4.mono fun i _ hi => .inr (.inr hi))
    · rintro a2 w2 d2 ⟨g1, g2, g3, g4⟩
      exact ⟨d2, .panicking [{ v := .iface 68 (.agg #[.int .i64 e]), recovered := true }], rfl, .tuple #[], C27_res _ _, h _ _ rfl g1 g2 g3 g4⟩
end Go.Proofs.YtgfbkmclekafbaaGreatDoor

/- A round of Parse's loop. -/
set_option maxRecDepth 100000
namespace Go.Proofs.YtgfbkmclekafbaaGreatDoor
open Go Go.Vc

theorem ROK.upd {S : Nat → Prop} {w w' : World} {N b : Nat} {r : RS} (h : ROK w N b r) (hu : Upd S w w') (hb : ¬ S b) (hN : ∀ i, S i → i < N) : ROK w' N b r := by
  obtain ⟨oq, ol, oc, sq, sl, sc, h1, h2, h3, h4, h5, h6, h7, h8, h9⟩ := h
  refine ⟨oq, ol, oc, sq, sl, sc, hu.blk h1 hb, h2.upd hu (fun x hx hh => ?_), h3.upd hu (fun x hx hh => ?_), h4, h5, h6, h7, h8, h9⟩
  · have := h7 x hx; have := hN x hh; omega
  · have := h8 x hx; have := hN x hh; omega

noncomputable abbrev C12 : Code := Tryz.f12.body.getD .skip
noncomputable abbrev A12 : Code := C12.pr.pr.pr.pr.pl.pr.pl.pl
noncomputable abbrev B12 : Code := C12.pr.pr.pr.pr.pl.pr.pl.pr
noncomputable def rec12 (T : Array Value) (kd : Nat) : Loop := { state := .ready, pending := none, fn := n_script_Parse, tmps := T, params := #[17], assign := A12, body := B12, defers := kd }
theorem wrsA12 : wrs A12 = [7] := by kernel_rfl
theorem chk12 : (chk 43 Pg.ann A12 && chk 43 Ph.ann B12 && calm A12 && calm B12) = true := by kernel_rfl

def skipL : List UInt8 → Bool
  | [] => true
  | c :: _ => c == 35
/-- what a round does to the reader -/
def stepL (r : RS) (x : List UInt8) : Except Int RS := if skipL x = true then .ok r else lineSpec r (blanks (mk x))

theorem assign12 {a : Act} {w : World} {x : ByteArray} (h : ofAct a 17 = .string x) : vc P Pg.ann A12 (pieceQ [7] (fun vs w1 => vs = [.string x] ∧ w1 = w) (fun _ => False) (fun _ _ => False)) (ofAct a) w := by
  have hv := Eq.mp (Pg.eq (e := ofAct a) (a17 := x) (w := w) (N := fun vs w1 => vs = [.string x] ∧ w1 = w) (R := fun _ => False) (X := fun _ _ => False)) ⟨rfl, rfl⟩
  rw [set_self h] at hv
  exact hv
theorem body12 {a : Act} {w : World} {b4 b6 : Nat} {x : ByteArray} {N : List Value → World → Prop} {X : List PanicEntry → World → Prop} (h4 : ofAct a 4 = .pointer (some ⟨b4, 0, none⟩)) (h6 : ofAct a 6 = .pointer (some ⟨b6, 0, none⟩)) (h7 : ofAct a 7 = .string x)
    (h : Ph.F b4 b6 x w N (fun _ => False) X) : vc P Ph.ann B12 (pieceQ [] N (fun _ => False) X) (ofAct a) w := by
  have hv := Eq.mp (Ph.eq (e := ofAct a)) h
  rw [set_self h4, set_self h6, set_self h7] at hv
  exact hv

theorem round12 {T : Array Value} {kd k3 kr kc l N n : Nat} {r : RS} {x : List UInt8} {w : World} {K' : Value → World → Prop} {X' : List PanicEntry → World → Prop}
    (hT : T.size = 43) (h4 : T.getD 4 undef = .pointer (some ⟨k3, 0, none⟩)) (h6 : T.getD 6 undef = .pointer (some ⟨kc, 0, none⟩))
    (hl : w.heap[l]? = some (.loop (rec12 T kd))) (h3 : w.heap[k3]? = some (.cells #[.int .i64 (n : Int)] 3 (0, 0))) (hc : w.heap[kc]? = some (.cells #[.pointer (some ⟨kr, 0, none⟩)] 70 (0, 0)))
    (hR : ROK w N kr r) (hw : Lw w) (hN9 : 9 ≤ N) (hNw : N ≤ w.heap.size) (hk9 : 9 ≤ k3) (hr9 : 9 ≤ kr) (hl9 : 9 ≤ l) (d1 : k3 < N) (d2 : l < N) (d3 : kc < N) (n1 : k3 ≠ kr) (n2 : k3 ≠ l) (n3 : k3 ≠ kc) (n4 : kr ≠ l) (n5 : kr ≠ kc) (n6 : l ≠ kc)
    (hx : x.length < 4294967281) (hops : r.p.ops.length < 4294967281) (hn : n < 4294967281)
    (hok : ∀ r' w', stepL r x = .ok r' → Upd (fun i => i = k3 ∨ i = kr ∨ i = l ∨ N ≤ i) w w' → w'.heap[l]? = some (.loop (rec12 T kd)) → w'.heap[k3]? = some (.cells #[.int .i64 ((n + 1 : Nat) : Int)] 3 (0, 0)) → ROK w' N kr r' → K' (.bool true) w')
    (hno : ∀ e w', stepL r x = .error e → Upd (fun i => i = k3 ∨ i = kr ∨ i = l ∨ N ≤ i) w w' → w'.heap[k3]? = some (.cells #[.int .i64 ((n + 1 : Nat) : Int)] 3 (0, 0)) → X' (fault e) w') :
    callV P (.func (.yield l) #[] #[]) [.string (mk x)] w K' X' := by
  refine callV_yield (r := rec12 T kd) (t := 17) hl rfl ?_
  have hs17 : (T.setIfInBounds 17 (.string (mk x))).size = 43 := by simp [hT]
  have e17 : ofAct ⟨T.setIfInBounds 17 (.string (mk x)), []⟩ 17 = .string (mk x) := by
    simp [ofAct, Array.getD_eq_getD_getElem?, hT]
  have eo : ∀ t, t ≠ 17 → ofAct ⟨T.setIfInBounds 17 (.string (mk x)), []⟩ t = T.getD t undef := by
    intro t ht
    simp only [ofAct, Array.getD_eq_getD_getElem?]
    rw [Array.getElem?_setIfInBounds_ne (Ne.symm ht)]
  refine round_el (r := rec12 T kd) (n := 43) (A := Pg.ann) (B := Ph.ann) (outs := [7]) (N := fun vs w1 => vs = [.string (mk x)] ∧ w1 = w) good Tryz.func12 chk12 hs17 (assign12 e17) ?_
  rintro a1 w1 hun ⟨hv, rfl⟩
  have h7 : ofAct a1 7 = .string (mk x) := by simpa using hv
  have hun' : ∀ t, t ≠ 7 → ofAct a1 t = ofAct ⟨T.setIfInBounds 17 (.string (mk x)), []⟩ t := fun t ht => hun t (by
    show t ∉ wrs A12
    rw [wrsA12]; simpa using ht)
  have h4' : ofAct a1 4 = .pointer (some ⟨k3, 0, none⟩) := (hun' 4 (by decide)).trans ((eo 4 (by decide)).trans h4)
  have h6' : ofAct a1 6 = .pointer (some ⟨kc, 0, none⟩) := (hun' 6 (by decide)).trans ((eo 6 (by decide)).trans h6)
  refine ⟨hl, rfl, body12 h4' h6' h7 ?_⟩
  -- the record is busy
  generalize hW : w1.putObj l (.loop { rec12 T kd with state := .busy }) = W
  have hlw := blk_lt hl
  have hWl : W.heap[l]? = some (.loop { rec12 T kd with state := .busy }) := by rw [← hW]; exact World.putObj_heap_same hlw
  have uW : Upd (fun i => i = l) w1 W := by rw [← hW]; exact putObj_upd rfl
  unfold Ph.F
  have h3W := uW.blk h3 (by omega)
  refine ld_blk h3W (v := .int .i64 (n : Int)) rfl ?_
  simp only [asI_at]
  refine st1_el h3W (by simp) fun w2 g2 u2 q2 => ?_
  have en : iAdd .i64 (n : Int) 1 = ((n + 1 : Nat) : Int) := by rw [iAdd_i64 (by omega) (by omega)]; omega
  have g2' : w2.heap[k3]? = some (.cells #[.int .i64 ((n + 1 : Nat) : Int)] 3 (0, 0)) := by
    rw [g2, en]; rfl
  have g2l := u2.blk hWl (by omega)
  have uw2 : Upd (fun i => i = k3 ∨ i = kr ∨ i = l ∨ N ≤ i) w1 w2 := (uW.mono fun i _ hi => .inr (.inr (.inl hi))).trans (u2.mono fun i _ hi => .inl hi)
  have hR2 : ROK w2 N kr r := (hR.upd uW (by omega) (fun i hi => by omega)).upd u2 (by omega) (fun i hi => by omega)
  have hLw2 : Lw w2 := hw.upd uw2 (fun i hi hh => by omega)
  have hsz2 : N ≤ w2.heap.size := Nat.le_trans hNw uw2.size
  -- it ends well
  have fin : ∀ r' w3, stepL r x = .ok r' → Upd (fun i => i = k3 ∨ i = kr ∨ i = l ∨ N ≤ i) w1 w3 → w3.heap[l]? = some (.loop { rec12 T kd with state := .busy }) → w3.heap[k3]? = some (.cells #[.int .i64 ((n + 1 : Nat) : Int)] 3 (0, 0)) → ROK w3 N kr r' →
      ∃ r', w3.heap[l]? = some (.loop r') ∧ onRet K' X' (.returned (.bool true)) (w3.putObj l (.loop { r' with state := .ready, pending := none })) := by
    intro r' w3 hs hu hl3 hk3 hR3
    refine ⟨_, hl3, hok r' _ hs (hu.trans (putObj_upd (.inr (.inr (.inl rfl))))) (World.putObj_heap_same (blk_lt hl3)) ?_ (hR3.upd (S := fun i => i = l) (putObj_upd rfl) (by omega) (fun i hi => by omega))⟩
    rw [World.putObj_heap_other n2]; exact hk3
  intro K1 hK1
  have skip : skipL x = true → K1 [.bool false] w2 := fun hsk => hK1 _ _ fun _ => if_f rfl (fin r w2 (by unfold stepL; rw [if_pos hsk]) uw2 g2l g2' hR2)
  cases x with
  | nil => exact if_f (by rw [sNe_f]; rfl) (skip rfl)
  | cons c t =>
    refine if_t (by rw [sNe_t]; intro hq; have := congrArg ByteArray.size hq; rw [mk_size] at this; simp [bs, ByteArray.size] at this) ?_
    refine ⟨by unfold inB; rw [mk_size]; simp, ?_⟩
    have hb : bt (mk (c :: t)) 0 = (c.toNat : Int) := bt_at (i := 0) rfl
    rw [hb]
    by_cases h35 : c = 35
    · have : iNe ((c.toNat : Nat) : Int) 35 = false := by rw [iNe_f, h35]; rfl
      rw [this]
      exact skip (by simp [skipL, h35])
    · have : iNe ((c.toNat : Nat) : Int) 35 = true := by
        rw [iNe_t]; intro hq; apply h35; apply UInt8.toNat_inj.1; show c.toNat = 35; omega
      rw [this]
      refine hK1 _ _ fun _ => if_t rfl ?_
      have hst : stepL r (c :: t) = lineSpec r (blanks (mk (c :: t))) := by unfold stepL; rw [if_neg (by simpa [skipL] using h35)]
      have hc2 := u2.blk (uW.blk hc (by omega)) (by omega)
      refine ld_blk hc2 (v := .pointer (some ⟨kr, 0, none⟩)) rfl ?_
      refine line_el hLw2 hN9 hsz2 hr9 hR2 (by rw [mk_size]; exact hx) hops (fun r' w3 hs hR3 hu3 => ?_) (fun e w3 hs hu3 => ?_)
      · refine fin r' w3 (hst.trans hs) (uw2.trans (hu3.mono fun i _ hi => hi.elim (fun h => .inr (.inl h)) (fun h => .inr (.inr (.inr h))))) (hu3.blk g2l (by omega)) (hu3.blk g2' (by omega)) hR3
      · exact hno e w3 (hst.trans hs) (uw2.trans (hu3.mono fun i _ hi => hi.elim (fun h => .inr (.inl h)) (fun h => .inr (.inr (.inr h))))) (hu3.blk g2' (by omega))
end Go.Proofs.YtgfbkmclekafbaaGreatDoor

/- Parse: its contract. -/
set_option maxRecDepth 100000
namespace Go.Proofs.YtgfbkmclekafbaaGreatDoor
open Go Go.Vc

def parseL : RS → Nat → List (List UInt8) → Except (Int × Nat) (RS × Nat)
  | r, n, [] => .ok (r, n)
  | r, n, x :: rest => match stepL r x with
    | .ok r' => parseL r' (n + 1) rest
    | .error e => .error (e, n + 1)
def rs0 : RS := ⟨zeroPlan, [], false⟩
def parseText (l : List UInt8) : ParseR :=
  if 262144 < l.length then ⟨zeroPlan, [], 0, 6⟩ else match parseL rs0 0 (cutAt 10 [] l) with
    | .ok (r, n) => if r.began = true then ⟨r.p, r.steps, 0, 0⟩ else ⟨zeroPlan, [], n, 210⟩
    | .error (e, n) => ⟨zeroPlan, [], n, e⟩
structure PRes (w w' : World) (R : ParseR) (oq : Option Addr) (ol oc : Nat) (sq : Option Addr) (sl sc : Nat) : Prop where
  ext : Ext w w'
  ops : Row w' 49 3 oq ol oc (opsCells R.p.ops)
  steps : Row w' 46 5 sq sl sc (stepsCells R.steps)
  nops : ol = R.p.ops.length
  nsteps : sl = R.steps.length
  newo : ∀ x, blkOf oq = some x → w.heap.size ≤ x
  news : ∀ x, blkOf sq = some x → w.heap.size ≤ x
  apart : ∀ x, blkOf oq = some x → blkOf sq ≠ some x

theorem stepL_ops {r r' : RS} {x : List UInt8} (h : stepL r x = .ok r') : r'.p.ops.length ≤ r.p.ops.length + 1 := by
  unfold stepL at h
  split at h
  · cases h; omega
  · unfold lineSpec at h
    split at h
    · cases h
    · split at h
      · split at h
        · split at h
          · split at h
            · rename_i hp; cases h; show _ ≤ _; rw [setNums_ops _ _ _ hp]; omega
            · cases h
          · cases h
        · cases h
      · split at h
        · split at h
          · cases h; simp
          · cases h
        · split at h
          · split at h
            · cases h; exact Nat.le_succ _
            · cases h
          · cases h

/-! the code's shape -/
theorem C12_nt : Tryz.f12.ntmps = 43 := by kernel_rfl
theorem C12_0 : C12 = .seq C12.pl C12.pr := by kernel_rfl
theorem C12_1 : C12.pr = .seq C12.pr.pl C12.pr.pr := by kernel_rfl
theorem C12_2 : C12.pr.pr = .seq C12.pr.pr.pl C12.pr.pr.pr := by kernel_rfl
theorem C12_3 : C12.pr.pr.pr = .seq C12.pr.pr.pr.pl C12.pr.pr.pr.pr := by kernel_rfl
theorem C12_4 : C12.pr.pr.pr.pr = .seq C12.pr.pr.pr.pr.pl C12.pr.pr.pr.pr.pr := by kernel_rfl
theorem C12_5 : C12.pr.pr.pr.pr.pl = .seq C12.pr.pr.pr.pr.pl.pl (.block 0 (.rangeFunc (.tmp 16) #[17] A12 B12)) := by kernel_rfl
theorem C12_6 : C12.pr.pr.pr.pr.pr = .seq C12.pr.pr.pr.pr.pr.pl C12.pr.pr.pr.pr.pr.pr := by kernel_rfl
noncomputable def ops3 : Array Oper := match C12.pr.pr.pl with | .region _ o _ => o | _ => #[]
theorem C12_d : C12.pr.pr.pl = .region 3 ops3 false := by kernel_rfl
theorem ops3_n : List.range ops3.size = [0, 1] := by kernel_rfl
noncomputable def dflt : Oper := { dst := none, op := .move (.tmp 0), type := 0, pos := "", after := #[], guard := none }
noncomputable def o30 : Oper := (ops3[0]?).getD dflt
noncomputable def o31 : Oper := (ops3[1]?).getD dflt
theorem o30_at : ops3[0]? = some o30 := by kernel_rfl
theorem o31_at : ops3[1]? = some o31 := by kernel_rfl
theorem o30_g : o30.guard = none := by kernel_rfl
theorem o31_g : o31.guard = none := by kernel_rfl
theorem o30_d : o30.dst = some 12 := by kernel_rfl
theorem o31_d : o31.dst = none := by kernel_rfl
theorem o30_op : o30.op = .makeFunc (.func 27) #[] #[.tmp 2, .tmp 3, .tmp 5] := by kernel_rfl
theorem o31_op : o31.op = .defer { callee := .value (.tmp 12), args := #[], argTypes := #[] } := by kernel_rfl
def d27 (k1 k2 k4 : Nat) : Array Value := #[.pointer (some ⟨k1, 0, none⟩), .pointer (some ⟨k2, 0, none⟩), .pointer (some ⟨k4, 0, none⟩)]
theorem o30_run {a : Act} {w : World} {k1 k2 k4 : Nat} (h2 : a.eval (.tmp 2) = .pointer (some ⟨k1, 0, none⟩)) (h3 : a.eval (.tmp 3) = .pointer (some ⟨k2, 0, none⟩)) (h5 : a.eval (.tmp 5) = .pointer (some ⟨k4, 0, none⟩)) :
    (execOp a.eval o30).run P w = .ok (.value (.func (.func 27) #[] (d27 k1 k2 k4))) w := by
  unfold execOp
  simp only [o30_op]
  simp [h2, h3, h5, d27, Instr.makeFunc, Result.andThen]
theorem o31_run {a : Act} {w : World} {cap : Array Value} (h : a.eval (.tmp 12) = .func (.func 27) #[] cap) : (execOp a.eval o31).run P w = .ok (.defer { target := .fn (.func 27) cap, args := #[] }) w := by
  unfold execOp
  simp only [o31_op]
  simp [resolve, h, Deferred.ofValue]

/-! the last check: the panic's own activation matters -/
noncomputable def ops10 : Array Oper := match C12.pr.pr.pr.pr.pr.pl with | .region _ o _ => o | _ => #[]
theorem C12_m : C12.pr.pr.pr.pr.pr.pl = .region 10 ops10 false := by kernel_rfl
theorem ops10_n : List.range ops10.size = [0, 1, 2, 3] ++ [4] := by kernel_rfl
noncomputable def o104 : Oper := (ops10[4]?).getD dflt
theorem o104_at : ops10[4]? = some o104 := by kernel_rfl
theorem o104_g : o104.guard = none := by kernel_rfl
theorem o104_d : o104.dst = some 34 := by kernel_rfl
theorem o104_op : o104.op = .call { callee := .value (.func n_script_must), args := #[.tmp 33, .const (.int .i64 210)], argTypes := #[4, 27] } := by kernel_rfl
def ri10 : RI := .op 0 [] (.op 1 [] (.op 2 [] (.op 3 [] .nil)))
theorem ri10_chk : ri10.chk 43 ops10 = true := by kernel_rfl
theorem dsts10 : dsts ops10 [0, 1, 2, 3] = [30, 31, 32, 33] := by kernel_rfl
theorem vcR10 {e : Env} {b6 : Nat} {w : World} {K : Env → World → Prop} {X : List PanicEntry → World → Prop} :
    (ld w (⟨b6, 0, none⟩ : Addr) fun v1 => asP v1 fun p1 => nn p1 fun d1 => ld w (Addr.add d1 9) fun v2 => asB v2 fun b1 =>
      K (Env.set (Env.set (Env.set (Env.set (Env.set e 6 (.pointer (some ⟨b6, 0, none⟩))) 30 (.pointer p1)) 31 (.pointer (some d1))) 32 (.pointer (some (Addr.add d1 9)))) 33 (.bool b1)) w) =
    vcR P ops10 X ri10 (Env.set e 6 (.pointer (some ⟨b6, 0, none⟩))) w K := by kernel_rfl
theorem o104_run {a : Act} {w : World} {b : Bool} (h : a.eval (.tmp 33) = .bool b) : (execOp a.eval o104).run P w = .ok (.enter n_script_must #[.bool b, .int .i64 210]) w := by
  unfold execOp
  simp only [o104_op]
  have : (callFunc n_script_must #[.bool b, .int .i64 210]).run P w = .ok (.enter n_script_must #[.bool b, .int .i64 210]) w := callF_ok good.plain (c := Tryz.f30.body.getD .skip) Tryz.func30 (by kernel_rfl) _ _
  have h1 : a.eval (.const (.int .i64 210)) = .int .i64 210 := rfl
  have h2 : a.eval (.func n_script_must) = .func (.func n_script_must) #[] #[] := rfl
  simpa [resolve, h, h1, h2, Deferred.ofValue, invoke] using this
theorem must12 {a : Act} {w : World} {Q : Exit → Act → World → Prop} {kc kr : Nat} {cs : Array Value} {b : Bool} (hn : a.tmps.size = 43) (h6 : ofAct a 6 = .pointer (some ⟨kc, 0, none⟩)) (hc : w.heap[kc]? = some (.cells #[.pointer (some ⟨kr, 0, none⟩)] 70 (0, 0)))
    (hr : w.heap[kr]? = some (.cells cs 72 (0, 0))) (hb : cs[9]? = some (.bool b))
    (h1 : ∀ a', b = true → a'.tmps.size = 43 → a'.defers = a.defers → (∀ t, t < 30 → ofAct a' t = ofAct a t) → Q .normal a' w)
    (h2 : ∀ a', b = false → a'.tmps.size = 43 → a'.defers = a.defers → (∀ t, t < 30 → ofAct a' t = ofAct a t) → Q (.panic (fault 210)) a' w) : C12.pr.pr.pr.pr.pr.pl.wp P Q a w := by
  rw [C12_m]
  refine (wpIn_wide (n := 0)).1 (wpIn_region ?_)
  rw [ops10_n]
  have hv : vcR P ops10 (fun _ _ => False) ri10 (ofAct a) w (fun e' w' => e' 33 = .bool b ∧ w' = w) := by
    rw [← set_self h6]
    refine Eq.mp vcR10 ?_
    refine ld_blk hc (v := .pointer (some ⟨kr, 0, none⟩)) rfl ?_
    refine ld_add hr hb ?_
    exact ⟨rfl, rfl⟩
  refine vcR_ops (Q := Q) good.plain (D := a.defers) (X := fun _ _ => False) (n := 43) (fun c a' w' _ _ hh => hh.elim) ri10 a w _ [4] ri10_chk hn rfl hv ?_
  rintro a' w' s' d' hun ⟨hb33, rfl⟩
  have hun' : ∀ t, t < 30 → ofAct a' t = ofAct a t := fun t ht => hun t (by
    show t ∉ dsts ops10 [0, 1, 2, 3]
    rw [dsts10]; simp only [List.mem_cons, List.not_mem_nil, or_false]; omega)
  unfold wpOpsIn
  rw [o104_at]
  simp only
  rw [if_pos (by simp [Region.wanted, o104_g])]
  refine ⟨fun _ _ => trivial, ?_⟩
  rw [show Fence.wide.round = none from rfl, Oper.semAt_none, o104_run (b := b) (by rw [← ev_ofAct]; exact hb33)]
  refine ⟨fun hd => by simp [Fence.wide] at hd, callsIn_wide.2 (Calls.mono (must_el (b := b) (e := 210) (w := w') (K := fun v w2 => b = true ∧ w2 = w') (X := fun ch w2 => b = false ∧ ch = fault 210 ∧ w2 = w') (fun hb => ⟨hb, rfl⟩) (fun hb => ⟨hb, rfl, rfl⟩)) ?_)⟩
  intro e w2 he
  cases e with
  | returned v =>
    obtain ⟨hb, rfl⟩ := he
    show Q .normal _ _
    rw [o104_d]
    refine h1 _ hb (by rw [size_put, s']) (by rw [defers_put]; exact d') (fun t ht => ?_)
    rw [ofAct_put (by rw [s']; decide), set_other (by omega)]
    exact hun' t ht
  | panicked ch =>
    obtain ⟨hb, rfl, rfl⟩ := he
    exact h2 _ hb s' d' hun'
  | outgrown => exact he.elim

/-! the results -/
theorem res12 {e : Env} {w : World} {b2 b3 b4 b5 : Nat} {K : Value → World → Prop} :
    (ld w (⟨b2, 0, none⟩ : Addr) fun v0 => asI .i64 v0 fun n0 => ld w (Addr.add ⟨b2, 0, none⟩ 1) fun v1 => asI .i64 v1 fun n1 => ld w (Addr.add ⟨b2, 0, none⟩ 2) fun v2 => asI .i64 v2 fun n2 =>
      ld w (Addr.add ⟨b2, 0, none⟩ 3) fun v3 => asL v3 fun q l c => ld w (Addr.add ⟨b2, 0, none⟩ 4) fun v4 => asI .i64 v4 fun n4 => ld w (Addr.add ⟨b2, 0, none⟩ 5) fun v5 => asI .i64 v5 fun n5 =>
      ld w (Addr.add ⟨b2, 0, none⟩ 6) fun v6 => asI .i64 v6 fun n6 => ld w (Addr.add ⟨b2, 0, none⟩ 7) fun v7 => asI .i64 v7 fun n7 =>
      ld w (⟨b3, 0, none⟩ : Addr) fun v8 => asL v8 fun q2 l2 c2 => ld w (⟨b4, 0, none⟩ : Addr) fun v9 => asI .i64 v9 fun n9 => ld w (⟨b5, 0, none⟩ : Addr) fun v10 => asI .i64 v10 fun n10 =>
      K (.tuple #[.agg #[.int .i64 n0, .int .i64 n1, .int .i64 n2, .slice q l c, .int .i64 n4, .int .i64 n5, .int .i64 n6, .int .i64 n7], .slice q2 l2 c2, .int .i64 n9, .int .i64 n10]) w) =
    resV P w (Env.set (Env.set (Env.set (Env.set e 2 (.pointer (some ⟨b2, 0, none⟩))) 3 (.pointer (some ⟨b3, 0, none⟩))) 4 (.pointer (some ⟨b4, 0, none⟩))) 5 (.pointer (some ⟨b5, 0, none⟩))) Tryz.f12.results.toList (fun vs => K (retV vs) w) := by kernel_rfl
theorem res12_el {a : Act} {w : World} {b2 b3 b4 b5 : Nat} {K : Value → World → Prop} {p : PlanR} {oq sq : Option Addr} {ol oc sl sc : Nat} {n e : Int} (e2 : ofAct a 2 = .pointer (some ⟨b2, 0, none⟩)) (e3 : ofAct a 3 = .pointer (some ⟨b3, 0, none⟩)) (e4 : ofAct a 4 = .pointer (some ⟨b4, 0, none⟩)) (e5 : ofAct a 5 = .pointer (some ⟨b5, 0, none⟩))
    (h2 : w.heap[b2]? = some (.cells (p.cells oq ol oc).toArray 24 (0, 0))) (h3 : w.heap[b3]? = some (.cells #[.slice sq sl sc] 25 (0, 0))) (h4 : w.heap[b4]? = some (.cells #[.int .i64 n] 3 (0, 0))) (h5 : w.heap[b5]? = some (.cells #[.int .i64 e] 27 (0, 0)))
    (hK : K (.tuple #[.agg (p.cells oq ol oc).toArray, .slice sq sl sc, .int .i64 n, .int .i64 e]) w) : resV P w (ofAct a) Tryz.f12.results.toList (fun vs => K (retV vs) w) := by
  rw [← set_self e2, ← set_self (e := Env.set (ofAct a) 2 _) (d := 3) (v := .pointer (some ⟨b3, 0, none⟩)) (by rw [set_other (by decide)]; exact e3),
    ← set_self (e := Env.set (Env.set (ofAct a) 2 _) 3 _) (d := 4) (v := .pointer (some ⟨b4, 0, none⟩)) (by rw [set_other (by decide), set_other (by decide)]; exact e4),
    ← set_self (e := Env.set (Env.set (Env.set (ofAct a) 2 _) 3 _) 4 _) (d := 5) (v := .pointer (some ⟨b5, 0, none⟩)) (by rw [set_other (by decide), set_other (by decide), set_other (by decide)]; exact e5)]
  refine Eq.mp res12 ?_
  refine ld_blk h2 (v := .int .i64 p.p0) rfl ?_
  refine ld_add h2 (v := .int .i64 p.p1) rfl ?_
  refine ld_add h2 (v := .int .i64 p.p2) rfl ?_
  refine ld_add h2 (v := .slice oq ol oc) rfl ?_
  refine ld_add h2 (v := .int .i64 p.p4) rfl ?_
  refine ld_add h2 (v := .int .i64 p.p5) rfl ?_
  refine ld_add h2 (v := .int .i64 p.p6) rfl ?_
  refine ld_add h2 (v := .int .i64 p.p7) rfl ?_
  refine ld_blk h3 (v := .slice sq sl sc) rfl ?_
  refine ld_blk h4 (v := .int .i64 n) rfl ?_
  refine ld_blk h5 (v := .int .i64 e) rfl ?_
  exact hK
end Go.Proofs.YtgfbkmclekafbaaGreatDoor

/- Parse: its contract, put together. -/
set_option maxRecDepth 100000
namespace Go.Proofs.YtgfbkmclekafbaaGreatDoor
open Go Go.Vc

/-- what the loop turns: Parse's variables lie from n on -/
def SL (n i : Nat) : Prop := i = n + 2 ∨ i = n + 4 ∨ i = n + 10 ∨ i = n + 6 ∨ n + 11 ≤ i
/-- what holds between two rounds -/
structure Between (n0 : Nat) (T : Array Value) (wL : World) (res : Except (Int × Nat) (RS × Nat)) (tot : Nat) (rest : List (List UInt8)) (w : World) (r : RS) (n : Nat) : Prop where
  res : parseL r n rest = res
  tot : n + rest.length = tot
  ops : r.p.ops.length ≤ n
  len : ∀ x ∈ rest, x.length < 4294967281
  upd : Upd (SL n0) wL w
  lp : w.heap[(n0 + 10)]? = some (.loop (rec12 T (n0 + 9)))
  cnt : w.heap[(n0 + 2)]? = some (.cells #[.int .i64 (n : Int)] 3 (0, 0))
  rok : ROK w (n0 + 11) (n0 + 4) r

theorem loop12 {T : Array Value} {wL : World} {s : ByteArray} {K : Value → World → Prop} {X : List PanicEntry → World → Prop} {n0 : Nat} (h9 : 9 ≤ n0) (hlw : Lw wL) (hN : wL.heap.size = (n0 + 11)) (hs : s.size < 4294967181)
    (hT : T.size = 43) (h4 : T.getD 4 undef = .pointer (some ⟨(n0 + 2), 0, none⟩)) (h6 : T.getD 6 undef = .pointer (some ⟨(n0 + 5), 0, none⟩))
    (hc : wL.heap[(n0 + 5)]? = some (.cells #[.pointer (some ⟨(n0 + 4), 0, none⟩)] 70 (0, 0))) (hb0 : wL.heap[(n0 + 7)]? = some (.cells #[.string (bs [10])] 9 (0, 0))) (hb2 : wL.heap[(n0 + 8)]? = some (.cells #[.int .i64 0] 3 (0, 0)))
    (hbt : wL.heap[(n0 + 6)]? = some (.cells #[.string s] 9 (0, 0))) (hrec : wL.heap[(n0 + 10)]? = some (.loop (rec12 T (n0 + 9)))) (hcnt : wL.heap[(n0 + 2)]? = some (.cells #[.int .i64 0] 3 (0, 0))) (hrok : ROK wL (n0 + 11) (n0 + 4) rs0)
    (hK : ∀ r n w', parseL rs0 0 (cutAt 10 [] s.data.toList) = .ok (r, n) → Upd (SL n0) wL w' → w'.heap[(n0 + 10)]? = some (.loop (rec12 T (n0 + 9))) → w'.heap[(n0 + 2)]? = some (.cells #[.int .i64 (n : Int)] 3 (0, 0)) → ROK w' (n0 + 11) (n0 + 4) r → K (.tuple #[]) w')
    (hX : ∀ e n w', parseL rs0 0 (cutAt 10 [] s.data.toList) = .error (e, n) → Upd (SL n0) wL w' → w'.heap[(n0 + 2)]? = some (.cells #[.int .i64 (n : Int)] 3 (0, 0)) → X (fault e) w') :
    call P n_strings_splitSeq_1 [.func (.yield (n0 + 10)) #[] #[], .pointer (some ⟨(n0 + 7), 0, none⟩), .pointer (some ⟨(n0 + 6), 0, none⟩), .pointer (some ⟨(n0 + 8), 0, none⟩)] wL K X := by
  have hSn : ∀ i, i ≠ (n0 + 2) → i ≠ (n0 + 4) → i ≠ (n0 + 10) → i ≠ (n0 + 6) → i < (n0 + 11) → ¬ SL n0 i := by
    intro i g1 g2 g3 g4 g5 hh; rcases hh with h | h | h | h | h <;> omega
  have nb0 : ¬ SL n0 (n0 + 7) := hSn (n0 + 7) (by omega) (by omega) (by omega) (by omega) (by omega)
  have nb2 : ¬ SL n0 (n0 + 8) := hSn (n0 + 8) (by omega) (by omega) (by omega) (by omega) (by omega)
  have nkc : ¬ SL n0 (n0 + 5) := hSn (n0 + 5) (by omega) (by omega) (by omega) (by omega) (by omega)
  have n9 : ∀ i, i < 9 → ¬ SL n0 i := fun i hi => hSn i (by omega) (by omega) (by omega) (by omega) (by omega)
  have hcutlen : ∀ (l cur : List UInt8), (cutAt 10 cur l).length ≤ l.length + 1 := by
    intro l
    induction l with
    | nil => intro cur; simp [cutAt]
    | cons y r ih => intro cur; rw [cutAt]; have h1 := ih []; have h2 := ih (cur ++ [y]); split <;> simp only [List.length_cons] <;> omega
  refine splitSeq1_el (fun rest w => ∃ r n, Between n0 T wL (parseL rs0 0 (cutAt 10 [] s.data.toList)) (cutAt 10 [] s.data.toList).length rest w r n) ?_ ?_ ?_ (l := s.data.toList) (by rw [← size_len]; omega) ?_ ?_ ?_
  · rintro rest w ⟨r, n, B⟩
    exact ⟨Upd.blk B.upd hb0 nb0, Upd.blk B.upd hb2 nb2⟩
  · rintro rest w w' ⟨r, n, B⟩ hu
    exact ⟨r, n, B.res, B.tot, B.ops, B.len, B.upd.trans (hu.mono fun i _ hi => .inr (.inr (.inr (.inl hi)))), hu.blk B.lp (by omega), hu.blk B.cnt (by omega), B.rok.upd hu (by omega) (fun i hi => by omega)⟩
  · rintro x rest w K' ⟨r, n, B⟩ hK'
    have htot : n + (rest.length + 1) ≤ s.data.toList.length + 1 := by
      have := B.tot; have := hcutlen s.data.toList []; simp only [List.length_cons] at *; omega
    have hsl := size_len s
    have hNw : (n0 + 11) ≤ w.heap.size := by have := B.upd.size; omega
    refine round12 (kd := (n0 + 9)) (k3 := (n0 + 2)) (kr := (n0 + 4)) (kc := (n0 + 5)) (l := (n0 + 10)) (N := (n0 + 11)) (n := n) (r := r) hT h4 h6 B.lp B.cnt (Upd.blk B.upd hc nkc) B.rok
      (hlw.upd B.upd n9) (by omega) hNw (by omega) (by omega) (by omega) (by omega) (by omega) (by omega) (by omega) (by omega) (by omega) (by omega) (by omega) (by omega)
      (B.len x (by simp)) (by have := B.ops; omega) (by omega) ?_ ?_
    · intro r' w' hst hu hl' h3' hR'
      have hres := B.res
      rw [parseL, hst] at hres
      refine hK' w' ⟨r', n + 1, hres, by have := B.tot; simp only [List.length_cons] at this; omega, by have := stepL_ops hst; have := B.ops; omega, fun y hy => B.len y (by simp [hy]), B.upd.trans (hu.mono fun i _ hi => ?_), hl', h3', hR'⟩ (hu.block _ ?_ ?_)
      · rcases hi with h | h | h | h
        · exact .inl h
        · exact .inr (.inl h)
        · exact .inr (.inr (.inl h))
        · exact .inr (.inr (.inr (.inr h)))
      · omega
      · omega
    · intro e w' hst hu h3'
      have hres := B.res
      rw [parseL, hst] at hres
      refine hX e (n + 1) w' hres.symm (B.upd.trans (hu.mono fun i _ hi => ?_)) h3'
      rcases hi with h | h | h | h
      · exact .inl h
      · exact .inr (.inl h)
      · exact .inr (.inr (.inl h))
      · exact .inr (.inr (.inr (.inr h)))
  · refine ⟨rs0, 0, rfl, by simp, by simp [rs0, zeroPlan], fun x hx => ?_, Upd.refl _ _, hrec, hcnt, hrok⟩
    have := cutAt_len _ _ _ hx
    rw [← size_len] at this
    simp at this
    omega
  · rw [mk_of]; exact hbt
  · rintro w' ⟨r, n, B⟩
    exact hK r n w' B.res.symm B.upd B.lp B.cnt B.rok
end Go.Proofs.YtgfbkmclekafbaaGreatDoor

/- Parse: the contract. -/
set_option maxRecDepth 100000
namespace Go.Proofs.YtgfbkmclekafbaaGreatDoor
open Go Go.Vc

/-- strings.SplitSeq: the ranged function, over its three cells -/
theorem splitSeq_el {s : ByteArray} {w : World} {K : Value → World → Prop} {X : List PanicEntry → World → Prop}
    (h : ∀ w', Ext w w' → w'.heap.size = w.heap.size + 3 → w'.heap[w.heap.size]? = some (.cells #[.string s] 9 (0, 0)) → w'.heap[w.heap.size + 1]? = some (.cells #[.string (bs [10])] 9 (0, 0)) → w'.heap[w.heap.size + 2]? = some (.cells #[.int .i64 0] 3 (0, 0)) →
      K (.func (.func 60) #[] #[.pointer (some ⟨w.heap.size + 1, 0, none⟩), .pointer (some ⟨w.heap.size, 0, none⟩), .pointer (some ⟨w.heap.size + 2, 0, none⟩)]) w') :
    call P n_strings_SplitSeq [.string s, .string (bs [10])] w K X := by
  refine strings_SplitSeq.call ?_
  unfold strings_SplitSeq.F
  refine strings_splitSeq.call ?_
  unfold strings_splitSeq.F
  refine al_el fun k1 w1 hk1 hb1 hx1 hs1 => ?_
  refine al_el fun k2 w2 hk2 hb2 hx2 hs2 => ?_
  refine al_el fun k3 w3 hk3 hb3 hx3 hs3 => ?_
  obtain rfl : k2 = w.heap.size + 1 := by omega
  obtain rfl : k3 = w.heap.size + 2 := by omega
  subst hk1
  exact h w3 ((hx1.trans hx2).trans hx3) (by omega) ((hx2.trans hx3).blk hb1 (fun h => h)) (hx3.blk hb2 (fun h => h)) hb3

theorem wrsPb : wrs C12.pr.pl = [8, 9, 10, 11] := by kernel_rfl
theorem wrsPc : wrs C12.pr.pr.pr.pl = [13, 14, 6] := by kernel_rfl
theorem wrsPd : wrs C12.pr.pr.pr.pr.pl.pl = [15, 16] := by kernel_rfl
theorem wrsPa : wrs C12.pl = [2, 3, 4, 5] := by kernel_rfl
theorem wrsPf : wrs C12.pr.pr.pr.pr.pr.pr = [35, 36, 37, 38, 39, 40, 41, 42] := by kernel_rfl

/-- the deferred calls: the mark and Parse$1, with nothing to recover -/
theorem leave_ok {fn : Func} {a : Act} {w : World} {K : Value → World → Prop} {X : List PanicEntry → World → Prop} {n0 : Nat} (hd : a.defers = [{ target := .collected (n0 + 9), args := #[] }, { target := .fn (.func 27) (d27 n0 (n0 + 1) (n0 + 3)), args := #[] }])
    (hm : w.heap[n0 + 9]? = some (.deferred (some []))) (h : ∀ w', Upd (fun i => i = n0 + 9) w w' → resV P w' (ofAct a) fn.results.toList (fun vs => K (retV vs) w')) :
    LeavesInM Fence.wide 0 P fn a.tmps (onRet K X) a.defers .returning w := by
  rw [hd]
  refine leaves_mark (by simp) hm ?_
  refine leaves_call good.plain (c := C27) (by simp) Tryz.func27 (by kernel_rfl) ?_
  refine parse1_none (fun w' hx => ?_)
  exact leaves_done (h w' (Upd.then (putObj_upd rfl) hx))
/-- the same behind a fault -/
theorem leave_fault {fn : Func} {a : Act} {w : World} {K : Value → World → Prop} {X : List PanicEntry → World → Prop} {n0 : Nat} {e : Int} {cs0 cs1 cs2 : Array Value} (hd : a.defers = [{ target := .collected (n0 + 9), args := #[] }, { target := .fn (.func 27) (d27 n0 (n0 + 1) (n0 + 3)), args := #[] }])
    (hm : w.heap[n0 + 9]? = some (.deferred (some []))) (h0 : w.heap[n0]? = some (.cells cs0 24 (0, 0))) (z0 : cs0.size = 8) (h1 : w.heap[n0 + 1]? = some (.cells cs1 25 (0, 0))) (z1 : cs1.size = 1)
    (h2 : w.heap[n0 + 3]? = some (.cells cs2 27 (0, 0))) (z2 : cs2.size = 1)
    (h : ∀ w', Upd (fun i => i = n0 + 9 ∨ i = n0 ∨ i = n0 + 1 ∨ i = n0 + 3) w w' → w'.heap[n0]? = some (.cells zeroCells.toArray 24 (0, 0)) → w'.heap[n0 + 1]? = some (.cells #[.slice none 0 0] 25 (0, 0)) → w'.heap[n0 + 3]? = some (.cells #[.int .i64 e] 27 (0, 0)) →
      resV P w' (ofAct a) fn.results.toList (fun vs => K (retV vs) w')) :
    LeavesInM Fence.wide 0 P fn a.tmps (onRet K X) a.defers (.panicking (fault e)) w := by
  rw [hd]
  refine leaves_mark (by simp) hm ?_
  refine leaves_call good.plain (c := C27) (by simp) Tryz.func27 (by kernel_rfl) ?_
  have hu : Upd (fun i => i = n0 + 9) w (w.putObj (n0 + 9) (.deferred none)) := putObj_upd rfl
  refine parse1_fault (e := e) (hu.blk h0 (by omega)) z0 (hu.blk h1 (by omega)) z1 (hu.blk h2 (by omega)) z2 (by omega) (by omega) (by omega) (fun w' u' hs hx g0 g1 g2 => ?_)
  show LeavesInM Fence.wide 0 P fn a.tmps (onRet K X) [] (settle u') w'
  rw [hs]
  exact leaves_done (h w' ((hu.mono fun i _ hi => .inl hi).trans (hx.mono fun i _ hi => .inr hi)) g0 g1 g2)

theorem in_defer {n : Nat} {ops : Array Oper} {Q : Exit → Act → World → Prop} {i : Nat} {r : List Nat} {a : Act} {w w' : World} {o : Oper} {d : Deferred} (ho : ops[i]? = some o) (hg : o.guard = none)
    (hr : (execOp a.eval o).run P w = .ok (.defer d) w') (h : wpOpsIn Fence.wide n P ops Q r ({ a with defers := d :: a.defers }.put o.dst undef) w') : wpOpsIn Fence.wide n P ops Q (i :: r) a w := by
  unfold wpOpsIn
  rw [ho]
  simp only
  rw [if_pos (by simp [Region.wanted, hg])]
  refine ⟨fun _ _ => trivial, ?_⟩
  rw [show Fence.wide.round = none from rfl, Oper.semAt_none, hr]
  exact h

theorem parse_el {s : ByteArray} {w : World} {K : Value → World → Prop} {X : List PanicEntry → World → Prop} (hw : Lw w) (hs : s.size < 4294967181)
    (hK : ∀ oq ol oc sq sl sc w', PRes w w' (parseText s.data.toList) oq ol oc sq sl sc → K (.tuple #[.agg ((parseText s.data.toList).p.cells oq ol oc).toArray, .slice sq sl sc, .int .i64 ((parseText s.data.toList).at_ : Int), .int .i64 (parseText s.data.toList).e]) w') :
    call P n_script_Parse [.string s] w K X := by
  obtain ⟨n0, hn0⟩ : ∃ n0, n0 = w.heap.size := ⟨_, rfl⟩
  have h9 : 9 ≤ n0 := by have := hw.size; omega
  refine call_of_wpK (k := n_script_Parse) (c := C12) (args := [.string s]) Tryz.func12 (by kernel_rfl) ?_
  rw [C12_nt]
  generalize ha0 : ({ tmps := [Value.string s].toArray ++ Array.replicate (43 - [Value.string s].toArray.size) undef, defers := [] } : Act) = a0
  have s0 : a0.tmps.size = 43 := by rw [← ha0]; simp
  have dd0 : a0.defers = [] := by rw [← ha0]
  have e0 : ofAct a0 = argE [.string s] := by rw [← ha0]; exact argE_eq _ _ _
  generalize hQ0 : bodyPostM Fence.wide 0 P Tryz.f12 (onRet K X) = Q0
  rw [C12_0]
  refine wpK_seq (wpK_of (piece_wp (ann := Pa.ann) (outs := [2, 3, 4, 5]) (N := fun vs w4 => vs = [.pointer (some ⟨n0, 0, none⟩), .pointer (some ⟨n0 + 1, 0, none⟩), .pointer (some ⟨n0 + 2, 0, none⟩), .pointer (some ⟨n0 + 3, 0, none⟩)] ∧ Ext w w4 ∧ w4.heap.size = n0 + 4 ∧
      w4.heap[n0]? = some (.cells zeroCells.toArray 24 (0, 0)) ∧ w4.heap[n0 + 1]? = some (.cells #[.slice none 0 0] 25 (0, 0)) ∧ w4.heap[n0 + 2]? = some (.cells #[.int .i64 0] 3 (0, 0)) ∧ w4.heap[n0 + 3]? = some (.cells #[.int .i64 0] 27 (0, 0)))
    (R := fun _ => False) (X := fun _ _ => False) good Pa.ok s0 dd0 (Eq.mp Pa.eq ?_) ?_ (fun _ _ _ _ _ h => h.elim) (fun _ _ _ _ _ h => h.elim)))
  · unfold Pa.F
    refine al_el fun k1 w1 hk1 hb1 hx1 hs1 => ?_
    refine al_el fun k2 w2 hk2 hb2 hx2 hs2 => ?_
    refine al_el fun k3 w3 hk3 hb3 hx3 hs3 => ?_
    refine al_el fun k4 w4 hk4 hb4 hx4 hs4 => ?_
    obtain rfl : k1 = n0 := by omega
    obtain rfl : k2 = k1 + 1 := by omega
    obtain rfl : k3 = k1 + 2 := by omega
    obtain rfl : k4 = k1 + 3 := by omega
    exact ⟨rfl, ((hx1.trans hx2).trans hx3).trans hx4, by omega, ((hx2.trans hx3).trans hx4).blk hb1 (fun h => h), (hx3.trans hx4).blk hb2 (fun h => h), hx4.blk hb3 (fun h => h), hb4⟩
  rintro a1 w4 s1 dd1 un1 ⟨hv1, hx4, hz4, g1, g2, g3, g4⟩
  simp only [List.map_cons, List.map_nil, List.cons.injEq, and_true] at hv1
  obtain ⟨p2, p3, p4, p5⟩ := hv1
  have p0 : ofAct a1 0 = .string s := (un1 0 (by rw [wrsPa]; decide)).trans (by rw [e0]; rfl)
  show C12.pr.wpK n_script_Parse P Q0 a1 w4
  rw [C12_1]
  -- too long
  have gap : ∀ i, ¬ (i < n0) → w.heap.size ≤ i := fun i hi => by omega
  refine wpK_seq (wpK_of (piece_wp (ann := Pb.ann) (outs := []) (N := fun _ w5 => s.size ≤ 262144 ∧ w5 = w4)
    (R := fun w5 => 262144 < s.size ∧ Ext w w5 ∧ w5.heap[n0]? = some (.cells zeroCells.toArray 24 (0, 0)) ∧ w5.heap[n0 + 1]? = some (.cells #[.slice none 0 0] 25 (0, 0)) ∧ w5.heap[n0 + 2]? = some (.cells #[.int .i64 0] 3 (0, 0)) ∧ w5.heap[n0 + 3]? = some (.cells #[.int .i64 6] 27 (0, 0)))
    (X := fun _ _ => False) good Pb.ok s1 dd1 ?_ ?_ ?_ (fun _ _ _ _ _ h => h.elim)))
  · have hv := Eq.mp (Pb.eq (e := ofAct a1) (a0 := s) (b2 := n0) (b3 := n0 + 1) (b4 := n0 + 2) (b5 := n0 + 3) (w := w4) (N := fun _ w5 => s.size ≤ 262144 ∧ w5 = w4)
      (R := fun w5 => 262144 < s.size ∧ Ext w w5 ∧ w5.heap[n0]? = some (.cells zeroCells.toArray 24 (0, 0)) ∧ w5.heap[n0 + 1]? = some (.cells #[.slice none 0 0] 25 (0, 0)) ∧ w5.heap[n0 + 2]? = some (.cells #[.int .i64 0] 3 (0, 0)) ∧ w5.heap[n0 + 3]? = some (.cells #[.int .i64 6] 27 (0, 0)))
      (X := fun _ _ => False)) (by
        unfold Pb.F
        refine cnd_i (fun hg => ?_) (fun hg => ?_)
        · rw [iGt_t, lenN_el] at hg
          refine st_el g1 (by decide) fun w5 q1 u1 z1 => ?_
          refine st_el (u1.blk g2 (by omega)) (by decide) fun w6 q2 u2 z2 => ?_
          refine st_el (u2.blk (u1.blk g3 (by omega)) (by omega)) (by decide) fun w7 q3 u3 z3 => ?_
          refine st_el (u3.blk (u2.blk (u1.blk g4 (by omega)) (by omega)) (by omega)) (by decide) fun w8 q4 u4 z4 => ?_
          refine ⟨by omega, ?_, u4.blk (u3.blk (u2.blk q1 (by omega)) (by omega)) (by omega), u4.blk (u3.blk q2 (by omega)) (by omega), u4.blk q3 (by omega), q4⟩
          exact Ext.upd (Ext.upd (Ext.upd (Ext.upd hx4 u1 (fun i hi => by omega)) u2 (fun i hi => by omega)) u3 (fun i hi => by omega)) u4 (fun i hi => by omega)
        · rw [iGt_f, lenN_el] at hg
          exact ⟨by omega, rfl⟩)
    rw [set_self p0, set_self p2, set_self p3, set_self p4, set_self p5] at hv
    exact hv
  rotate_left
  · rintro a2 w5 s2 dd2 un2 ⟨hlong, hx5, q1, q2, q3, q4⟩
    have hpt : parseText s.data.toList = ⟨zeroPlan, [], 0, 6⟩ := by unfold parseText; rw [if_pos (by rw [← size_len]; exact hlong)]
    rw [hpt] at hK
    show Q0 .ret a2 w5
    rw [← hQ0]
    show LeavesInM Fence.wide 0 P Tryz.f12 a2.tmps (onRet K X) a2.defers .returning w5
    rw [dd2]
    have un2' : ∀ t, t < 8 → ofAct a2 t = ofAct a1 t := fun t ht => un2 t (by rw [wrsPb]; simp only [List.mem_cons, List.not_mem_nil, or_false]; omega)
    exact leaves_done (res12_el ((un2' 2 (by decide)).trans p2) ((un2' 3 (by decide)).trans p3) ((un2' 4 (by decide)).trans p4) ((un2' 5 (by decide)).trans p5) q1 q2 q3 q4
      (hK none 0 0 none 0 0 w5 ⟨hx5, Row.nil, Row.nil, rfl, rfl, fun x hx => by simp [blkOf] at hx, fun x hx => by simp [blkOf] at hx, fun x hx => by simp [blkOf] at hx⟩))
  rintro a2 w5 s2 dd2 un2 ⟨hshort, rfl⟩
  have un2' : ∀ t, t < 8 → ofAct a2 t = ofAct a1 t := fun t ht => un2 t (by rw [wrsPb]; simp only [List.mem_cons, List.not_mem_nil, or_false]; omega)
  replace p0 := (un2' 0 (by decide)).trans p0
  replace p2 := (un2' 2 (by decide)).trans p2
  replace p3 := (un2' 3 (by decide)).trans p3
  replace p4 := (un2' 4 (by decide)).trans p4
  replace p5 := (un2' 5 (by decide)).trans p5
  show C12.pr.pr.wpK n_script_Parse P Q0 a2 w5
  rw [C12_2]
  -- the deferred call
  refine wpK_seq (wpK_of ?_)
  rw [C12_d]
  refine (wpIn_wide (n := 0)).1 (wpIn_region ?_)
  rw [ops3_n]
  refine in_value o30_at o30_g (o30_run (k1 := n0) (k2 := n0 + 1) (k4 := n0 + 3) (by rw [← ev_ofAct]; exact p2) (by rw [← ev_ofAct]; exact p3) (by rw [← ev_ofAct]; exact p5)) ?_
  rw [o30_d]
  have s3 : (a2.put (some 12) (.func (.func 27) #[] (d27 n0 (n0 + 1) (n0 + 3)))).tmps.size = 43 := by rw [size_put, s2]
  refine in_defer o31_at o31_g (o31_run (cap := d27 n0 (n0 + 1) (n0 + 3)) (by rw [← ev_ofAct]; show ofAct _ 12 = _; rw [ofAct_put (by rw [s2]; decide)]; simp [Env.set])) ?_
  rw [o31_d]
  generalize ha3 : Act.put _ none undef = a3
  have s3' : a3.tmps.size = 43 := by rw [← ha3]; exact s3
  have dd3 : a3.defers = [{ target := .fn (.func 27) (d27 n0 (n0 + 1) (n0 + 3)), args := #[] }] := by rw [← ha3]; show _ :: a2.defers = _; rw [dd2]
  have un3 : ∀ t, t < 8 → ofAct a3 t = ofAct a2 t := fun t ht => by
    rw [← ha3]
    show ofAct (a2.put (some 12) _) t = _
    rw [ofAct_put (by rw [s2]; decide), set_other (by omega)]
  replace p0 := (un3 0 (by decide)).trans p0
  replace p2 := (un3 2 (by decide)).trans p2
  replace p3 := (un3 3 (by decide)).trans p3
  replace p4 := (un3 4 (by decide)).trans p4
  replace p5 := (un3 5 (by decide)).trans p5
  show C12.pr.pr.pr.wpK n_script_Parse P Q0 a3 w5
  rw [C12_3]
  -- the reader
  refine wpK_seq (wpK_of (piece_wp (ann := Pc.ann) (outs := [6]) (N := fun vs w6 => vs = [.pointer (some ⟨n0 + 5, 0, none⟩)] ∧ Ext w5 w6 ∧ w6.heap.size = n0 + 6 ∧
      w6.heap[n0 + 4]? = some (.cells (rdCells zeroPlan none 0 0 none 0 0 false).toArray 72 (0, 0)) ∧ w6.heap[n0 + 5]? = some (.cells #[.pointer (some ⟨n0 + 4, 0, none⟩)] 70 (0, 0)))
    (R := fun _ => False) (X := fun _ _ => False) good Pc.ok s3' dd3 (Eq.mp Pc.eq ?_) ?_ (fun _ _ _ _ _ h => h.elim) (fun _ _ _ _ _ h => h.elim)))
  · unfold Pc.F
    refine al_el fun k1 w6 hk1 hb1 hx1 hs1 => ?_
    refine al_el fun k2 w7 hk2 hb2 hx2 hs2 => ?_
    obtain rfl : k1 = n0 + 4 := by omega
    obtain rfl : k2 = n0 + 5 := by omega
    refine st_el hb2 (by simp) fun w8 q2 u2 z2 => ?_
    exact ⟨rfl, Ext.upd (hx1.trans hx2) u2 (fun i hi => by omega), by omega, u2.blk (hx2.blk hb1 (fun h => h)) (by omega), q2⟩
  rintro a4 w6 s4 dd4 un4 ⟨hv4, hx6, hz6, r1, r2⟩
  simp only [List.map_cons, List.map_nil, List.cons.injEq, and_true] at hv4
  have un4' : ∀ t, t < 6 → ofAct a4 t = ofAct a3 t := fun t ht => un4 t (by rw [wrsPc]; simp only [List.mem_cons, List.not_mem_nil, or_false]; omega)
  replace p0 := (un4' 0 (by decide)).trans p0
  replace p2 := (un4' 2 (by decide)).trans p2
  replace p3 := (un4' 3 (by decide)).trans p3
  replace p4 := (un4' 4 (by decide)).trans p4
  replace p5 := (un4' 5 (by decide)).trans p5
  show C12.pr.pr.pr.pr.wpK n_script_Parse P Q0 a4 w6
  rw [C12_4]
  refine wpK_seq ?_
  rw [C12_5]
  -- the ranged function
  refine wpK_seq (wpK_of (piece_wp (ann := Pd.ann) (outs := [16]) (N := fun vs w7 => vs = [.func (.func 60) #[] #[.pointer (some ⟨n0 + 7, 0, none⟩), .pointer (some ⟨n0 + 6, 0, none⟩), .pointer (some ⟨n0 + 8, 0, none⟩)]] ∧ Ext w6 w7 ∧ w7.heap.size = n0 + 9 ∧
      w7.heap[n0 + 6]? = some (.cells #[.string s] 9 (0, 0)) ∧ w7.heap[n0 + 7]? = some (.cells #[.string (bs [10])] 9 (0, 0)) ∧ w7.heap[n0 + 8]? = some (.cells #[.int .i64 0] 3 (0, 0)))
    (R := fun _ => False) (X := fun _ _ => False) good Pd.ok s4 dd4 ?_ ?_ (fun _ _ _ _ _ h => h.elim) (fun _ _ _ _ _ h => h.elim)))
  · have hv := Eq.mp (Pd.eq (e := ofAct a4) (a0 := s) (w := w6) (N := fun vs w7 => vs = [.func (.func 60) #[] #[.pointer (some ⟨n0 + 7, 0, none⟩), .pointer (some ⟨n0 + 6, 0, none⟩), .pointer (some ⟨n0 + 8, 0, none⟩)]] ∧ Ext w6 w7 ∧ w7.heap.size = n0 + 9 ∧
      w7.heap[n0 + 6]? = some (.cells #[.string s] 9 (0, 0)) ∧ w7.heap[n0 + 7]? = some (.cells #[.string (bs [10])] 9 (0, 0)) ∧ w7.heap[n0 + 8]? = some (.cells #[.int .i64 0] 3 (0, 0))) (R := fun _ => False) (X := fun _ _ => False)) (by
        unfold Pd.F
        refine splitSeq_el (fun w7 hx7 hz7 q1 q2 q3 => ?_)
        rw [hz6] at hz7 q1 q2 q3
        rw [hz6]
        exact ⟨rfl, hx7, hz7, q1, q2, q3⟩)
    rw [set_self p0] at hv
    exact hv
  rintro a5 w7 s5 dd5 un5 ⟨hv5, hx7, hz7, t1, t2, t3⟩
  simp only [List.map_cons, List.map_nil, List.cons.injEq, and_true] at hv5
  have un5' : ∀ t, t < 8 → ofAct a5 t = ofAct a4 t := fun t ht => un5 t (by rw [wrsPd]; simp only [List.mem_cons, List.not_mem_nil, or_false]; omega)
  replace p2 := (un5' 2 (by decide)).trans p2
  replace p3 := (un5' 3 (by decide)).trans p3
  replace p4 := (un5' 4 (by decide)).trans p4
  replace p5 := (un5' 5 (by decide)).trans p5
  have p6 := (un5' 6 (by decide)).trans hv4
  -- the world as the loop begins
  generalize hwL : (w7.alloc (.deferred (some []))).alloc (.loop (rec12 a5.tmps (n0 + 9))) = wL
  have hxd : Ext w7 (w7.alloc (.deferred (some []))) := Upd.alloc _
  have hxL : Ext w7 wL := by rw [← hwL]; exact hxd.trans (Upd.alloc _)
  have hzL : wL.heap.size = n0 + 11 := by rw [← hwL, World.size_alloc, World.size_alloc, hz7]
  have hmark : wL.heap[n0 + 9]? = some (.deferred (some [])) := by
    rw [← hwL]
    have : (w7.alloc (.deferred (some []))).heap[n0 + 9]? = some (.deferred (some [])) := by rw [← hz7]; exact World.alloc_heap_new _ _
    exact (Upd.alloc (S := fun _ => False) _).blk this (fun h => h)
  have hrec : wL.heap[n0 + 10]? = some (.loop (rec12 a5.tmps (n0 + 9))) := by
    rw [← hwL]
    have : n0 + 10 = (w7.alloc (.deferred (some []))).heap.size := by rw [World.size_alloc, hz7]
    rw [this]; exact World.alloc_heap_new _ _
  have hx57 : Ext w5 wL := (hx6.trans hx7).trans hxL
  have g1L := hx57.blk g1 (fun h => h)
  have g2L := hx57.blk g2 (fun h => h)
  have g3L := hx57.blk g3 (fun h => h)
  have g4L := hx57.blk g4 (fun h => h)
  have r1L := (hx7.trans hxL).blk r1 (fun h => h)
  have r2L := (hx7.trans hxL).blk r2 (fun h => h)
  have t1L := hxL.blk t1 (fun h => h)
  have t2L := hxL.blk t2 (fun h => h)
  have t3L := hxL.blk t3 (fun h => h)
  have hxwL : Ext w wL := hx4.trans hx57
  have hlwL : Lw wL := hw.ext hxwL
  have hrok : ROK wL (n0 + 11) (n0 + 4) rs0 := ⟨none, 0, 0, none, 0, 0, r1L, Row.nil, Row.nil, rfl, rfl, by omega, fun x hx => by simp [blkOf] at hx, fun x hx => by simp [blkOf] at hx, fun x hx => by simp [blkOf] at hx⟩
  have hlen : ¬ (262144 < s.data.toList.length) := by rw [← size_len]; omega
  -- behind a fault
  have faulty : ∀ (a6 : Act) (e : Int) (n : Nat) (w8 : World), a6.defers = [{ target := .collected (n0 + 9), args := #[] }, { target := .fn (.func 27) (d27 n0 (n0 + 1) (n0 + 3)), args := #[] }] → (∀ t, t < 8 → ofAct a6 t = ofAct a5 t) →
      parseText s.data.toList = ⟨zeroPlan, [], n, e⟩ → Upd (SL n0) wL w8 → w8.heap[n0 + 2]? = some (.cells #[.int .i64 (n : Int)] 3 (0, 0)) → Q0 (.panic (fault e)) a6 w8 := by
    intro a6 e n w8 hd hun hpt hu hk
    rw [hpt] at hK
    rw [← hQ0]
    have nSL : ∀ i, i = n0 ∨ i = n0 + 1 ∨ i = n0 + 3 ∨ i = n0 + 9 → ¬ SL n0 i := fun i hi hh => by unfold SL at hh; omega
    show LeavesInM Fence.wide 0 P Tryz.f12 a6.tmps (onRet K X) a6.defers (.panicking (fault e)) w8
    refine leave_fault hd (hu.blk hmark (nSL _ (by omega))) (hu.blk g1L (nSL _ (by omega))) rfl (hu.blk g2L (nSL _ (by omega))) rfl (hu.blk g4L (nSL _ (by omega))) rfl (fun w' hu' q1 q2 q3 => ?_)
    refine res12_el ((hun 2 (by decide)).trans p2) ((hun 3 (by decide)).trans p3) ((hun 4 (by decide)).trans p4) ((hun 5 (by decide)).trans p5) q1 q2 (hu'.blk hk (by omega)) q3 ?_
    refine hK none 0 0 none 0 0 w' ⟨?_, Row.nil, Row.nil, rfl, rfl, fun x hx => by simp [blkOf] at hx, fun x hx => by simp [blkOf] at hx, fun x hx => by simp [blkOf] at hx⟩
    exact Ext.upd (Ext.upd hxwL hu (fun i hi => by unfold SL at hi; omega)) hu' (fun i hi => by omega)
  refine wpK_block (wpK_range good.plain (f := 60) (c := Tryz.f60.body.getD .skip) (lb := [.pointer (some ⟨n0 + 7, 0, none⟩), .pointer (some ⟨n0 + 6, 0, none⟩), .pointer (some ⟨n0 + 8, 0, none⟩)]) Tryz.func60 (by kernel_rfl) (by rw [← ev_ofAct]; exact hv5) ?_)
  rw [hz7, dd5]
  show call P 60 _ ((w7.alloc (.deferred (some []))).alloc (.loop (rec12 a5.tmps (n0 + 9)))) _ _
  rw [hwL]
  refine loop12 (n0 := n0) h9 hlwL hzL hs s5 p4 p6 r2L t2L t3L t1L hrec g3L hrok ?_ ?_
  · intro r n w8 hr hu hl hk hR
    refine ⟨rec12 a5.tmps (n0 + 9), hl, by simp [rec12], rfl, .inl rfl, ?_⟩
    generalize ha6 : ({ tmps := a5.tmps, defers := [{ target := .collected (n0 + 9), args := #[] }, { target := .fn (.func 27) (d27 n0 (n0 + 1) (n0 + 3)), args := #[] }] } : Act) = a6
    have hun6 : ∀ t, ofAct a6 t = ofAct a5 t := fun t => by rw [← ha6]; rfl
    have dd6 : a6.defers = [{ target := .collected (n0 + 9), args := #[] }, { target := .fn (.func 27) (d27 n0 (n0 + 1) (n0 + 3)), args := #[] }] := by rw [← ha6]
    have s6 : a6.tmps.size = 43 := by rw [← ha6]; exact s5
    show C12.pr.pr.pr.pr.pr.wpK n_script_Parse P Q0 a6 _
    generalize hw9 : w8.putObj (n0 + 9 + 1) _ = w9
    have hu9 : Upd (fun i => i = n0 + 10) w8 w9 := by rw [← hw9]; exact putObj_upd rfl
    have huL : Upd (SL n0) wL w9 := hu.trans (hu9.mono fun i _ hi => .inr (.inr (.inl hi)))
    have hR9 : ROK w9 (n0 + 11) (n0 + 4) r := hR.upd hu9 (by omega) (fun i hi => by omega)
    have hk9 := hu9.blk hk (by omega)
    have nSL : ∀ i, i = n0 ∨ i = n0 + 1 ∨ i = n0 + 3 ∨ i = n0 + 5 ∨ i = n0 + 9 → ¬ SL n0 i := fun i hi hh => by unfold SL at hh; omega
    obtain ⟨oq, ol, oc, sq, sl, sc, m1, m2, m3, m4, m5, m6, m7, m8, m9⟩ := hR9
    have hc9 := huL.blk r2L (nSL _ (by omega))
    rw [C12_6]
    refine wpK_seq (wpK_of (must12 (b := r.began) s6 ((hun6 6).trans p6) hc9 m1 rfl ?_ ?_))
    rotate_left
    · intro a7 hbg s7 dd7 hun7
      refine faulty a7 210 n w9 (dd7.trans dd6) (fun t ht => (hun7 t (by omega)).trans (hun6 t)) ?_ huL hk9
      unfold parseText
      rw [if_neg hlen, hr]
      simp [hbg]
    · intro a7 hbg s7 dd7 hun7
      have hpt : parseText s.data.toList = ⟨r.p, r.steps, 0, 0⟩ := by
        unfold parseText
        rw [if_neg hlen, hr]
        simp [hbg]
      rw [hpt] at hK
      have un7 : ∀ t, t < 8 → ofAct a7 t = ofAct a5 t := fun t ht => (hun7 t (by omega)).trans (hun6 t)
      have b1 := huL.blk g1L (nSL _ (by omega))
      have b2 := huL.blk g2L (nSL _ (by omega))
      have b4 := huL.blk g4L (nSL _ (by omega))
      refine wpK_of (piece_wp (ann := Pf.ann) (outs := []) (N := fun _ _ => False) (R := fun w' => Upd (fun i => i = n0 ∨ i = n0 + 1 ∨ i = n0 + 2 ∨ i = n0 + 3) w9 w' ∧ w'.heap[n0]? = some (.cells (r.p.cells oq ol oc).toArray 24 (0, 0)) ∧
        w'.heap[n0 + 1]? = some (.cells #[.slice sq sl sc] 25 (0, 0)) ∧ w'.heap[n0 + 2]? = some (.cells #[.int .i64 0] 3 (0, 0)) ∧ w'.heap[n0 + 3]? = some (.cells #[.int .i64 0] 27 (0, 0)))
        (X := fun _ _ => False) good Pf.ok s7 (dd7.trans dd6) ?_ (fun _ _ _ _ _ h => h.elim) ?_ (fun _ _ _ _ _ h => h.elim))
      · have hv := Eq.mp (Pf.eq (e := ofAct a7) (b2 := n0) (b3 := n0 + 1) (b4 := n0 + 2) (b5 := n0 + 3) (b6 := n0 + 5) (w := w9) (N := fun _ _ => False) (R := fun w' => Upd (fun i => i = n0 ∨ i = n0 + 1 ∨ i = n0 + 2 ∨ i = n0 + 3) w9 w' ∧ w'.heap[n0]? = some (.cells (r.p.cells oq ol oc).toArray 24 (0, 0)) ∧
          w'.heap[n0 + 1]? = some (.cells #[.slice sq sl sc] 25 (0, 0)) ∧ w'.heap[n0 + 2]? = some (.cells #[.int .i64 0] 3 (0, 0)) ∧ w'.heap[n0 + 3]? = some (.cells #[.int .i64 0] 27 (0, 0))) (X := fun _ _ => False)) (by
            unfold Pf.F
            rintro w1 rfl
            have hxd : Ext w9 w9.drew := Ext.drew
            have c5 := hxd.blk hc9 (fun h => h)
            have c4 := hxd.blk m1 (fun h => h)
            refine ld_blk c5 (v := .pointer (some ⟨n0 + 4, 0, none⟩)) rfl ?_
            refine ld_blk c5 (v := .pointer (some ⟨n0 + 4, 0, none⟩)) rfl ?_
            refine ld_blk c4 (v := .int .i64 r.p.p0) rfl ?_
            refine ld_add c4 (v := .int .i64 r.p.p1) rfl ?_
            refine ld_add c4 (v := .int .i64 r.p.p2) rfl ?_
            refine ld_add c4 (v := .slice oq ol oc) rfl ?_
            refine ld_add c4 (v := .int .i64 r.p.p4) rfl ?_
            refine ld_add c4 (v := .int .i64 r.p.p5) rfl ?_
            refine ld_add c4 (v := .int .i64 r.p.p6) rfl ?_
            refine ld_add c4 (v := .int .i64 r.p.p7) rfl ?_
            refine ld_add c4 (v := .slice sq sl sc) rfl ?_
            refine st_el (hxd.blk b1 (fun h => h)) (Nat.le_refl 8) fun w10 q1 u1 z1 => ?_
            refine ⟨cell_blk (u1.blk c5 (by omega)) rfl, cell_add (u1.blk c4 (by omega)) rfl, ?_⟩
            refine st_el (u1.blk (hxd.blk b2 (fun h => h)) (by omega)) (by simp) fun w11 q2 u2 z2 => ?_
            refine st_el (u2.blk (u1.blk (hxd.blk hk9 (fun h => h)) (by omega)) (by omega)) (by simp) fun w12 q3 u3 z3 => ?_
            refine st_el (u3.blk (u2.blk (u1.blk (hxd.blk b4 (fun h => h)) (by omega)) (by omega)) (by omega)) (by simp) fun w13 q4 u4 z4 => ?_
            refine ⟨?_, u4.blk (u3.blk (u2.blk q1 (by omega)) (by omega)) (by omega), u4.blk (u3.blk q2 (by omega)) (by omega), u4.blk q3 (by omega), q4⟩
            exact ((((Ext.to hxd).trans (u1.mono fun i _ hi => .inl hi)).trans (u2.mono fun i _ hi => .inr (.inl hi))).trans (u3.mono fun i _ hi => .inr (.inr (.inl hi)))).trans (u4.mono fun i _ hi => .inr (.inr (.inr hi))))
        rw [set_self ((un7 2 (by decide)).trans p2), set_self ((un7 3 (by decide)).trans p3), set_self ((un7 4 (by decide)).trans p4), set_self ((un7 5 (by decide)).trans p5), set_self ((un7 6 (by decide)).trans p6)] at hv
        exact hv
      · rintro a8 w10 s8 dd8 un8 ⟨hu10, q1, q2, q3, q4⟩
        show Q0 .ret a8 w10
        rw [← hQ0]
        show LeavesInM Fence.wide 0 P Tryz.f12 a8.tmps (onRet K X) a8.defers .returning w10
        have un8' : ∀ t, t < 8 → ofAct a8 t = ofAct a5 t := fun t ht => (un8 t (by rw [wrsPf]; simp only [List.mem_cons, List.not_mem_nil, or_false]; omega)).trans (un7 t ht)
        refine leave_ok dd8 (hu10.blk (huL.blk hmark (nSL _ (by omega))) (by omega)) (fun w' hu' => ?_)
        refine res12_el ((un8' 2 (by decide)).trans p2) ((un8' 3 (by decide)).trans p3) ((un8' 4 (by decide)).trans p4) ((un8' 5 (by decide)).trans p5) (hu'.blk q1 (by omega)) (hu'.blk q2 (by omega)) (hu'.blk q3 (by omega)) (hu'.blk q4 (by omega)) ?_
        have hfin : Upd (fun i => i = n0 ∨ i = n0 + 1 ∨ i = n0 + 2 ∨ i = n0 + 3 ∨ i = n0 + 9) w9 w' := (hu10.mono fun i _ hi => by omega).trans (hu'.mono fun i _ hi => by omega)
        refine hK oq ol oc sq sl sc w' ⟨?_, m2.upd hfin (fun x hx hh => by have := m7 x hx; omega), m3.upd hfin (fun x hx hh => by have := m8 x hx; omega), m4, m5, fun x hx => by have := m7 x hx; omega, fun x hx => by have := m8 x hx; omega, m9⟩
        exact Ext.upd (Ext.upd hxwL huL (fun i hi => by unfold SL at hi; omega)) hfin (fun i hi => by omega)
  · intro e n w8 hr hu hk
    refine ⟨.inr ⟨_, rfl⟩, ?_⟩
    refine faulty { tmps := a5.tmps, defers := _ } e n w8 rfl (fun t _ => rfl) ?_ hu hk
    unfold parseText
    rw [if_neg hlen, hr]
end Go.Proofs.YtgfbkmclekafbaaGreatDoor
