/- Statements: the reading is sound (regions that draw their order: by a hypothesis on the region, paid elsewhere). -/
import Derived.Test.YtgfbkmclekafbaaGreatDoorQVc6
set_option linter.unusedVariables false
set_option linter.unusedSimpArgs false
set_option linter.unnecessarySimpa false
namespace Go.Vc
open Go
variable {P : Program}

def isPanic : Exit → Bool
  | .panic _ => true
  | _ => false
/-- the temporaries that a statement writes -/
def wrs : Code → List Nat
  | .region _ ops _ => dsts ops (List.range ops.size)
  | .seq a b => wrs a ++ wrs b
  | .cond _ a b => wrs a ++ wrs b
  | .block _ a => wrs a
  | .loop a => wrs a
  | .scope a => wrs a
  | _ => []
def LQ (n : Nat) (D : List Deferred) (Q : Post) (W : List Nat) (a : Act) : Exit → Act → World → Prop := fun x a' w' =>
  a'.tmps.size = n ∧ a'.defers = D ∧ (isPanic x = false → ∀ t, t ∉ W → ofAct a' t = ofAct a t) ∧ Q x (ofAct a') w'
def PanicOk (Q : Post) : Prop := ∀ c e e' w, Q (.panic c) e w → Q (.panic c) e' w
/-- a region that draws its order is gone through soundly -/
def DrawOk (P : Program) (n : Nat) (ops : Array Oper) (r : RI) : Prop :=
  ∀ (Q : Exit → Act → World → Prop) (X : List PanicEntry → World → Prop) (D : List Deferred) (id : Nat) (a : Act) (w : World) (K : Env → World → Prop),
    (∀ c a w, a.tmps.size = n → a.defers = D → X c w → Q (.panic c) a w) → a.tmps.size = n → a.defers = D → vcR P ops X r (ofAct a) w.drew K →
    (∀ a' w', a'.tmps.size = n → a'.defers = D → (∀ t, t ∉ dsts ops (List.range ops.size) → ofAct a' t = ofAct a t) → K (ofAct a') w' → Q .normal a' w') →
    (Code.region id ops true).wp P Q a w
def draws (c : Bool → Array Oper → RI → Bool) : Ann → Code → Bool
  | .reg r, .region _ ops d => c d ops r
  | .seq a b, .seq c' d | .seqJ _ _ a b, .seq c' d | .cond a b, .cond _ c' d => draws c a c' && draws c b d
  | .blk a, .block _ c' | .blk a, .scope c' | .loop _ _ a, .loop c' => draws c a c'
  | _, _ => true
def chk (n : Nat) : Ann → Code → Bool
  | .reg r, .region _ ops d => r.chk n ops && (d || r.idx == List.range ops.size)
  | .seq a b, .seq c d | .cond a b, .cond _ c d => chk n a c && chk n b d
  | .seqJ W _ a b, .seq c d => (wrs c).all (W.testBit ·) && chk n a c && chk n b d
  | .blk a, .block _ c | .blk a, .scope c => chk n a c
  | .loop W _ a, .loop c => (wrs c).all (W.testBit ·) && chk n a c
  | _, _ => true

/-- from a loop's item on -/
def LoopAt (P : Program) (c : Code) (Q : Exit → Act → World → Prop) (a : Act) (w : World) : Prop :=
  ∀ (b : Frame) (k : List Item) (cs : List Frame), ∃ e a' w', Q e a' w' ∧ Arrives P (lone (b.at a (.inLoop c :: k)) cs w) b k cs e a' w'
theorem loop_round {c : Code} {Q : Exit → Act → World → Prop} {a : Act} {w : World} (h : c.wp P (Exit.then (LoopAt P c Q) Q) a w) :
    ∀ (b : Frame) (k : List Item) (cs : List Frame), ∃ e a' w', Q e a' w' ∧ Arrives P (lone (b.at a (.code c :: .inLoop c :: k)) cs w) b k cs e a' w' := by
  intro b k cs
  obtain ⟨e, a₁, w₁, hq, harr⟩ := h b (.inLoop c :: k) cs
  cases e with
  | normal =>
    obtain ⟨e₂, a₂, w₂, hq₂, harr₂⟩ := hq b k cs
    exact ⟨e₂, a₂, w₂, hq₂, .of_steps harr harr₂⟩
  | exit id => exact ⟨_, a₁, w₁, hq, .pass (x := .inLoop c) rfl (fun _ _ => .inl (by simp)) harr⟩
  | goto l => exact ⟨_, a₁, w₁, hq, .pass (x := .inLoop c) rfl (fun _ _ => .inl (by simp)) harr⟩
  | ret => exact ⟨_, a₁, w₁, hq, .pass (x := .inLoop c) rfl (fun _ _ => .inl (by simp)) harr⟩
  | panic ch => exact ⟨_, a₁, w₁, hq, .pass (x := .inLoop c) rfl (fun _ _ => .inl (by simp)) harr⟩
  | outgrown => exact ⟨_, a₁, w₁, hq, .pass (x := .inLoop c) rfl (fun _ _ => .inl (by simp)) harr⟩
theorem loopAt_round {c : Code} {Q : Exit → Act → World → Prop} {a : Act} {w : World} (h : c.wp P (Exit.then (LoopAt P c Q) Q) a w) : LoopAt P c Q a w := by
  intro b k cs
  obtain ⟨e, a', w', hq, harr⟩ := loop_round h b k cs
  exact ⟨e, a', w', hq, .of_steps (.one step_inLoop) harr⟩
theorem wp_loop_of {c : Code} {Q : Exit → Act → World → Prop} {a : Act} {w : World} (h : LoopAt P c Q a w → LoopAt P c Q a w) (hh : c.wp P (Exit.then (LoopAt P c Q) Q) a w) : (Code.loop c).wp P Q a w := by
  intro b k cs
  obtain ⟨e, a', w', hq, harr⟩ := loop_round hh b k cs
  exact ⟨e, a', w', hq, .of_steps (.one step_loop) harr⟩

theorem LQ_mono {n : Nat} {D : List Deferred} {Q Q' : Post} {W W' : List Nat} {a a1 : Act} {x : Exit} {a' : Act} {w' : World}
    (hW : isPanic x = false → ∀ t, t ∉ W' → t ∉ W ∧ ofAct a t = ofAct a1 t) (hQ : Q x (ofAct a') w' → Q' x (ofAct a') w') (h : LQ n D Q W a x a' w') : LQ n D Q' W' a1 x a' w' :=
  ⟨h.1, h.2.1, fun hx t ht => (h.2.2.1 hx t (hW hx t ht).1).trans (hW hx t ht).2, hQ h.2.2.2⟩

theorem vc_sound (hP : Plain P) (n : Nat) (dr : Bool → Array Oper → RI → Bool) (hdr : ∀ d ops r, dr d ops r = true → d = true → DrawOk P n ops r) (D : List Deferred) :
    ∀ (c : Code) (ann : Ann) (Q : Post) (a : Act) (w : World), PanicOk Q → chk n ann c = true → draws dr ann c = true → a.tmps.size = n → a.defers = D → vc P ann c Q (ofAct a) w →
      c.wp P (LQ n D Q (wrs c) a) a w := by
  intro c
  induction c with
  | skip =>
    intro ann Q a w hQ hc hd hn hD h
    cases ann <;> simp only [vc] at h
    exact wp_skip ⟨hn, hD, fun _ _ _ => rfl, h⟩
  | label l =>
    intro ann Q a w hQ hc hd hn hD h
    cases ann <;> simp only [vc] at h
    exact wp_label ⟨hn, hD, fun _ _ _ => rfl, h⟩
  | exit id =>
    intro ann Q a w hQ hc hd hn hD h
    cases ann <;> simp only [vc] at h
    exact wp_exit ⟨hn, hD, fun _ _ _ => rfl, h⟩
  | ret =>
    intro ann Q a w hQ hc hd hn hD h
    cases ann <;> simp only [vc] at h
    exact wp_ret ⟨hn, hD, fun _ _ _ => rfl, h⟩
  | goto l => intro ann Q a w hQ hc hd hn hD h; cases ann <;> simp only [vc] at h
  | refuse l => intro ann Q a w hQ hc hd hn hD h; cases ann <;> simp only [vc] at h
  | rangeFunc f ps x y _ _ => intro ann Q a w hQ hc hd hn hD h; cases ann <;> simp only [vc] at h
  | region id ops draw =>
    intro ann Q a w hQ hc hd hn hD h
    cases ann <;> try (simp only [vc] at h; done)
    rename_i r
    simp only [chk, Bool.and_eq_true] at hc
    cases draw with
    | false =>
      simp only [vc] at h
      have hidx : r.idx = List.range ops.size := by simpa using hc.2
      refine (wpIn_wide (n := 0)).1 (wpIn_region ?_)
      have := vcR_ops (Q := LQ n D Q (wrs (.region id ops false)) a) hP (D := D) (fun c a' w' h1 h2 h3 => ⟨h1, h2, by simp [isPanic], hQ _ _ _ _ h3⟩) r a w _ [] hc.1 hn hD h
        (fun a' w' h1 h2 h3 h4 => ⟨h1, h2, fun _ t ht => h3 t (by rw [hidx]; exact ht), h4⟩)
      rw [List.append_nil, hidx] at this
      exact this
    | true =>
      simp only [vc] at h
      exact hdr _ _ _ hd rfl (LQ n D Q (wrs (.region id ops true)) a) _ D id a w _ (fun c a' w' h1 h2 h3 => ⟨h1, h2, by simp [isPanic], hQ _ _ _ _ h3⟩) hn hD (h _ rfl)
        (fun a' w' h1 h2 h3 h4 => ⟨h1, h2, fun _ t ht => h3 t ht, h4⟩)
  | seq c d ihc ihd =>
    intro ann Q a w hQ hc hd hn hD h
    cases ann <;> try (simp only [vc] at h; done)
    · rename_i A B
      simp only [vc] at h
      simp only [chk, Bool.and_eq_true] at hc
      simp only [draws, Bool.and_eq_true] at hd
      refine wp_seq (wp_mono (ihc A _ a w ?_ hc.1 hd.1 hn hD h) ?_)
      · intro c e e' w h; exact hQ _ _ _ _ h
      · intro x a' w' hx
        obtain ⟨h1, h2, h3, h4⟩ := hx
        cases x with
        | normal =>
          refine wp_mono (ihd B Q a' w' hQ hc.2 hd.2 h1 h2 h4) ?_
          intro x a'' w'' hh
          refine LQ_mono (fun hx t ht => ?_) id hh
          simp only [wrs, List.mem_append, not_or] at ht
          exact ⟨ht.2, h3 rfl t ht.1⟩
        | _ => exact ⟨h1, h2, fun hx t ht => h3 hx t (fun hh => ht (by simp [wrs, hh])), h4⟩
    · rename_i W L A B
      simp only [vc] at h
      simp only [chk, Bool.and_eq_true, List.all_eq_true] at hc
      simp only [draws, Bool.and_eq_true] at hd
      have hWf : ∀ t, W.testBit t = false → t ∉ wrs c := fun t ht hh => by rw [hc.1.1 t hh] at ht; simp at ht
      have hM := meet_el (fun e' w' => ∀ a', ofAct a' = e' → a'.tmps.size = n → a'.defers = D → (∀ t, t ∉ wrs c → ofAct a' t = ofAct a t) → d.wp P (LQ n D Q (wrs (.seq c d)) a) a' w') (by
        intro e' w' hf hh a' he h1 h2 h3
        subst he
        refine wp_mono (ihd B Q a' w' hQ hc.2 hd.2 h1 h2 hh) ?_
        intro x a'' w'' hh
        refine LQ_mono (fun hx t ht => ?_) id hh
        simp only [wrs, List.mem_append, not_or] at ht
        exact ⟨ht.2, h3 t ht.1⟩) h
      refine wp_seq (wp_mono (ihc A _ a w ?_ hc.1.2 hd.1 hn hD hM) ?_)
      · intro c e e' w h; exact hQ _ _ _ _ h
      · intro x a' w' hx
        obtain ⟨h1, h2, h3, h4⟩ := hx
        cases x with
        | normal => exact h4 (ofAct a') rfl (fun t ht => h3 rfl t (hWf t ht)) a' rfl h1 h2 (fun t ht => h3 rfl t ht)
        | _ => exact ⟨h1, h2, fun hx t ht => h3 hx t (fun hh => ht (by simp [wrs, hh])), h4⟩
  | cond x c d ihc ihd =>
    intro ann Q a w hQ hc hd hn hD h
    cases ann <;> try (simp only [vc] at h; done)
    rename_i A B
    simp only [vc, onB] at h
    simp only [chk, Bool.and_eq_true] at hc
    simp only [draws, Bool.and_eq_true] at hd
    split at h
    · rename_i b hb
      have h := cnd_e h
      rw [ev_ofAct] at hb
      refine wp_cond_split hb (fun ht => ?_) (fun ht => ?_)
      · refine wp_mono (ihc A Q a w hQ hc.1 hd.1 hn hD (h.1 ht)) ?_
        intro x a'' w'' hh
        exact LQ_mono (fun hx t ht => ⟨fun hh => ht (by simp [wrs, hh]), rfl⟩) id hh
      · refine wp_mono (ihd B Q a w hQ hc.2 hd.2 hn hD (h.2 ht)) ?_
        intro x a'' w'' hh
        exact LQ_mono (fun hx t ht => ⟨fun hh => ht (by simp [wrs, hh]), rfl⟩) id hh
    · exact h.elim
  | block id c ih =>
    intro ann Q a w hQ hc hd hn hD h
    cases ann <;> try (simp only [vc] at h; done)
    rename_i A
    simp only [vc] at h
    refine wp_block (wp_mono (ih A _ a w ?_ hc hd hn hD h) ?_)
    · intro c e e' w h; exact hQ _ _ _ _ h
    · intro x a' w' hx
      obtain ⟨h1, h2, h3, h4⟩ := hx
      cases x with
      | exit i =>
        simp only [inBlk] at h4
        simp only [Exit.inBlock]
        cases hb : Nat.beq i id with
        | true =>
          rw [hb] at h4
          rw [if_pos (Nat.eq_of_beq_eq_true hb)]
          exact ⟨h1, h2, fun hx t ht => h3 rfl t ht, h4⟩
        | false =>
          rw [hb] at h4
          rw [if_neg (fun he => by subst he; simp at hb)]
          exact ⟨h1, h2, fun hx t ht => h3 rfl t ht, h4⟩
      | _ => exact ⟨h1, h2, h3, h4⟩
  | scope c ih =>
    intro ann Q a w hQ hc hd hn hD h
    cases ann <;> try (simp only [vc] at h; done)
    rename_i A
    simp only [vc] at h
    refine wp_scope_straight (wp_mono (ih A _ a w ?_ hc hd hn hD h) ?_)
    · intro c e e' w h; exact hQ _ _ _ _ h
    · intro x a' w' hx
      obtain ⟨h1, h2, h3, h4⟩ := hx
      cases x with
      | goto l => exact h4.elim
      | _ => exact ⟨h1, h2, h3, h4⟩
  | loop c ih =>
    intro ann Q a w hQ hc hd hn hD h
    cases ann <;> try (simp only [vc] at h; done)
    rename_i W L A
    simp only [vc, rounds] at h
    simp only [chk, Bool.and_eq_true, List.all_eq_true] at hc
    simp only [draws] at hd
    have hWf : ∀ t, W.testBit t = false → t ∉ wrs c := fun t ht hh => by rw [hc.1 t hh] at ht; simp at ht
    let T : Exit → Act → World → Prop := LQ n D Q (wrs (.loop c)) a
    have hround : ∀ (a' : Act) (w' : World), a'.tmps.size = n → a'.defers = D → (∀ t, t ∉ wrs c → ofAct a' t = ofAct a t) →
        vc P A c (thn (fun e'' w'' => ∀ e', gets e' L = gets e'' L → (∀ t, W.testBit t = false → e' t = ofAct a t) → ∀ a', ofAct a' = e' → a'.tmps.size = n → a'.defers = D → (∀ t, t ∉ wrs c → ofAct a' t = ofAct a t) → c.wp P (Exit.then (LoopAt P c T) T) a' w'') Q) (ofAct a') w' →
        c.wp P (Exit.then (LoopAt P c T) T) a' w' := by
      intro a' w' g1 g2 g3 hh
      refine wp_mono (ih A _ a' w' ?_ hc.2 hd g1 g2 hh) ?_
      · intro c e e' w h; exact hQ _ _ _ _ h
      · intro x a'' w'' hx
        obtain ⟨h1, h2, h3, h4⟩ := hx
        cases x with
        | normal =>
          refine loopAt_round (h4 (ofAct a'') rfl (fun t ht => ?_) a'' rfl h1 h2 (fun t ht => ?_))
          · exact (h3 rfl t (hWf t ht)).trans (g3 t (hWf t ht))
          · exact (h3 rfl t ht).trans (g3 t ht)
        | _ => exact ⟨h1, h2, fun hx t ht => (h3 hx t (fun hh => ht (by simp [wrs, hh]))).trans (g3 t (fun hh => ht (by simp [wrs, hh]))), h4⟩
    have key := h (fun vs w' => ∀ e', gets e' L = vs → (∀ t, W.testBit t = false → e' t = ofAct a t) → ∀ a', ofAct a' = e' → a'.tmps.size = n → a'.defers = D → (∀ t, t ∉ wrs c → ofAct a' t = ofAct a t) → c.wp P (Exit.then (LoopAt P c T) T) a' w')
      (allShs_intro fun vs w' hh e' hg hf a' he h1 h2 h3 => by
        have hh := hh e'
        rw [havoc_eq hf, ← hg, puts_gets] at hh
        subst he
        exact hround a' w' h1 h2 h3 hh)
    exact wp_loop_of id (key (ofAct a) rfl (fun _ _ => rfl) a rfl hn hD (fun _ _ => rfl))
end Go.Vc
