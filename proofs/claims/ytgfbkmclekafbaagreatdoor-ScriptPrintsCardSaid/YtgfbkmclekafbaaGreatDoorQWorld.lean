/- The witness's world: the listed variables hold what their initialisers lay; what the list says of their cells. Printed by roww.py. -/
import Derived.Test.YtgfbkmclekafbaaGreatDoorCards
import Derived.Test.YtgfbkmclekafbaaGreatDoorTie
import Derived.Test.YtgfbkmclekafbaaGreatDoorQWalk
import Derived.WalkKit
import Derived.ProofKit
import Derived.OpenShut
import Derived.Deep.DeepHandedRow
import Derived.Deep.DeepWitnessRowRef
import Derived.Lib.LaidTab
import Derived.Lib.LaidU8
import Derived.Stop.LaidErr
import Derived.Test.YtgfbkmclekafbaaGreatDoorQRt
set_option linter.unusedVariables false
set_option linter.unusedSimpArgs false
set_option linter.unnecessarySimpa false
set_option maxRecDepth 100000
namespace Go.Proofs.YtgfbkmclekafbaaGreatDoor
open Go Go.Vc
open Go.ChangeShapes Go.WideShapes Go.ChangeAt Go.RowKit
theorem own : ownKnob Tryz.prog.godebug = none := by kernel_rfl
noncomputable def low : Nat := (World.holding Tryz.prog default ⟨#[], #[], []⟩).heap.size
noncomputable def putG (h : Array Obj) (g : Nat) (cs : Array Value) : Array Obj := h.modify g fun
  | .cells _ t frozen => .cells cs t frozen
  | o => o
noncomputable def laidWorld (os : Os) : World :=
  let w0 := World.holding Tryz.prog os ⟨#[.cells #[.string ⟨#[118, 97, 108, 117, 101, 32, 111, 117, 116, 32, 111, 102, 32, 114, 97, 110, 103, 101]⟩] 175, .cells #[.string ⟨#[105, 110, 118, 97, 108, 105, 100, 32, 115, 121, 110, 116, 97, 120]⟩] 175], #[], []⟩
  { w0 with heap := (putG (putG (putG (putG (putG (putG (putG w0.heap 1 #[.int .u64 1, .int .u64 10, .int .u64 100, .int .u64 1000, .int .u64 10000, .int .u64 100000, .int .u64 1000000, .int .u64 10000000, .int .u64 100000000, .int .u64 1000000000, .int .u64 10000000000, .int .u64 100000000000, .int .u64 1000000000000, .int .u64 10000000000000, .int .u64 100000000000000, .int .u64 1000000000000000, .int .u64 10000000000000000, .int .u64 100000000000000000, .int .u64 1000000000000000000, .int .u64 10000000000000000000]) 2 (Lib.firstTab.map fun z => Value.int .u8 z).toArray) 3 #[.int .u8 128, .int .u8 191, .int .u8 160, .int .u8 191, .int .u8 128, .int .u8 159, .int .u8 144, .int .u8 191, .int .u8 128, .int .u8 143, .int .u8 0, .int .u8 0, .int .u8 0, .int .u8 0, .int .u8 0, .int .u8 0, .int .u8 0, .int .u8 0, .int .u8 0, .int .u8 0, .int .u8 0, .int .u8 0, .int .u8 0, .int .u8 0, .int .u8 0, .int .u8 0, .int .u8 0, .int .u8 0, .int .u8 0, .int .u8 0, .int .u8 0, .int .u8 0]) 5 #[.int .u8 0, .int .u8 1, .int .u8 28, .int .u8 2, .int .u8 29, .int .u8 14, .int .u8 24, .int .u8 3, .int .u8 30, .int .u8 22, .int .u8 20, .int .u8 15, .int .u8 25, .int .u8 17, .int .u8 4, .int .u8 8, .int .u8 31, .int .u8 27, .int .u8 13, .int .u8 23, .int .u8 21, .int .u8 19, .int .u8 16, .int .u8 7, .int .u8 26, .int .u8 12, .int .u8 18, .int .u8 6, .int .u8 11, .int .u8 5, .int .u8 10, .int .u8 9]) 6 #[.int .u8 0, .int .u8 1, .int .u8 56, .int .u8 2, .int .u8 57, .int .u8 49, .int .u8 28, .int .u8 3, .int .u8 61, .int .u8 58, .int .u8 42, .int .u8 50, .int .u8 38, .int .u8 29, .int .u8 17, .int .u8 4, .int .u8 62, .int .u8 47, .int .u8 59, .int .u8 36, .int .u8 45, .int .u8 43, .int .u8 51, .int .u8 22, .int .u8 53, .int .u8 39, .int .u8 33, .int .u8 30, .int .u8 24, .int .u8 18, .int .u8 12, .int .u8 5, .int .u8 63, .int .u8 55, .int .u8 48, .int .u8 27, .int .u8 60, .int .u8 41, .int .u8 37, .int .u8 16, .int .u8 46, .int .u8 35, .int .u8 44, .int .u8 21, .int .u8 52, .int .u8 32, .int .u8 23, .int .u8 11, .int .u8 54, .int .u8 26, .int .u8 40, .int .u8 15, .int .u8 34, .int .u8 20, .int .u8 31, .int .u8 10, .int .u8 25, .int .u8 14, .int .u8 19, .int .u8 9, .int .u8 13, .int .u8 8, .int .u8 7, .int .u8 6]) 7 #[.iface 173 (.pointer (some ⟨low + 1, 0, none⟩))]) 8 #[.iface 173 (.pointer (some ⟨low + 0, 0, none⟩))]) }
noncomputable abbrev laidList : List (String × DataW Unit) := [("math/bits.deBruijn32tab", Rows.laid_math_bits_deBruijn32tab), ("math/bits.deBruijn64tab", Rows.laid_math_bits_deBruijn64tab), ("internal/strconv.uint64pow10", Rows.laid_internal_strconv_uint64pow10), ("unicode/utf8.acceptRanges", Rows.laid_unicode_utf8_acceptRanges), ("strconv.ErrRange", Rows.laid_strconv_ErrRange), ("strconv.ErrSyntax", Rows.laid_strconv_ErrSyntax), ("unicode/utf8.first", Rows.laid_unicode_utf8_first)]
theorem laid_met (os : Os) (args : Array Value) : laidMet Tryz.prog laidList ((laidWorld os).forCall (fun _ _ => 0) ⟨#[], args, []⟩).memory :=
  laidMet_of_run' 8 (by kernel_rfl) (by kernel_rfl)
end Go.Proofs.YtgfbkmclekafbaaGreatDoor

/- What the row's list gives. -/
set_option maxRecDepth 100000
namespace Go.Proofs.YtgfbkmclekafbaaGreatDoor
open Go Go.Vc
open Go.ChangeShapes Go.WideShapes Go.ChangeAt Go.RowKit

theorem row173 (u : TypeId) (h : P.typeName? 3 u = some "*errors.errorString") : u = 173 :=
  typeName_ptr_named (nm := "errors.errorString") (by rw [show "*" ++ "errors.errorString" = "*errors.errorString" from by decide]; kernel_rfl) (by kernel_rfl) (by decide) u h
theorem laidPow {W : World} (hL : laidMetH P laidList W) : Lib.TabIs P W "internal/strconv.uint64pow10" .u64 Lib.pow10Tab :=
  Lib.tabIs_of_head (rest := (laidList.tail).tail.tail) (g := 1) (t := 128) (e := 41) (n := 20) (by kernel_rfl) (by kernel_rfl) (by kernel_rfl) (by kernel_rfl) (by kernel_rfl) (by kernel_rfl) hL.tail.tail
theorem laid64 {W : World} (hL : laidMetH P laidList W) : Lib.TabIs P W "math/bits.deBruijn64tab" .u8 [0, 1, 56, 2, 57, 49, 28, 3, 61, 58, 42, 50, 38, 29, 17, 4, 62, 47, 59, 36, 45, 43, 51, 22, 53, 39, 33, 30, 24, 18, 12, 5, 63, 55, 48, 27, 60, 41, 37, 16, 46, 35, 44, 21, 52, 32, 23, 11, 54, 26, 40, 15, 34, 20, 31, 10, 25, 14, 19, 9, 13, 8, 7, 6] :=
  Lib.tabIs_of_head (rest := (laidList.tail).tail) (g := 6) (t := 164) (e := 5) (n := 64) (by kernel_rfl) (by kernel_rfl) (by kernel_rfl) (by kernel_rfl) (by kernel_rfl) (by kernel_rfl) hL.tail
theorem laidErr8 {W : World} (hL : laidMetH P laidList W) : ∃ ev, W.cell? ⟨8, 0, none⟩ = some ev ∧ (ev = .nilIface ∨ ∃ te pe, ev = .iface te pe) := by
  have h : laidMet P laidList W := hL
  obtain ⟨a, s, hv, _, _, _⟩ := laid_sentinel (g := 8) (ti := 54) (tp := 173) (te := 175) (ts := 9) h.tail.tail.tail.tail (by kernel_rfl) (by kernel_rfl) Tryz.underlying54 row173 (by kernel_rfl) (by kernel_rfl) (f := { name := "s", embedded := false, type := 9, tag := "", pkgPath := "errors", offset := 0, byteOffset := 0 }) rfl rfl Go.Proofs.Tryz.underlying9 (by kernel_rfl) (by kernel_rfl)
  refine ⟨.iface 173 (.pointer (some a)), ?_, .inr ⟨_, _, rfl⟩⟩
  simpa using World.var?_cell (by kernel_rfl : P.globalNamed "strconv.ErrRange" = some 8) hv 0
theorem laidErr7 {W : World} (hL : laidMetH P laidList W) : ∃ ev, W.cell? ⟨7, 0, none⟩ = some ev ∧ (ev = .nilIface ∨ ∃ te pe, ev = .iface te pe) := by
  have h : laidMet P laidList W := hL
  obtain ⟨a, s, hv, _, _, _⟩ := laid_sentinel (g := 7) (ti := 54) (tp := 173) (te := 175) (ts := 9) h.tail.tail.tail.tail.tail (by kernel_rfl) (by kernel_rfl) Tryz.underlying54 row173 (by kernel_rfl) (by kernel_rfl) (f := { name := "s", embedded := false, type := 9, tag := "", pkgPath := "errors", offset := 0, byteOffset := 0 }) rfl rfl Go.Proofs.Tryz.underlying9 (by kernel_rfl) (by kernel_rfl)
  refine ⟨.iface 173 (.pointer (some a)), ?_, .inr ⟨_, _, rfl⟩⟩
  simpa using World.var?_cell (by kernel_rfl : P.globalNamed "strconv.ErrSyntax" = some 7) hv 0
theorem lw_of {W : World} (hL : laidMetH P laidList W) (hS : W.ShapedOpen P) : Lw W := by
  obtain ⟨e8, h8, g8⟩ := laidErr8 hL
  have c15 := (laid64 hL).cell (by kernel_rfl : P.globalNamed "math/bits.deBruijn64tab" = some 6) 15 (by decide)
  exact ⟨laidPow hL, laidErr7 hL, ⟨e8, h8, g8⟩, (Tryz.laysM143).s1_3 W hS, c15, by have := cell_lt h8; exact this⟩
/-- a call that hands back true and turns nothing of the past -/
theorem post_ext {H : Type} {enc : TypeId × Value → H} {f : Func} {s : ChangeSpec} {W W' : World} {args : Array Value} {v : Value} {ds : List (DataW H)} {before : List MemPlace}
    (hW : DataW.Whole enc P f.params.toList s.vars false W args.toList ds [] before)
    (hres : DataW.TrodAll enc P W' W.heap.size (fun _ => false) false f.resultTypes.toList (v.resultList f.resultTypes.size) (s.fn H (ds ++ [])).results [])
    (hargs : DataW.TrodAll enc P W' 0 (fun b => decide (b < W.heap.size)) true f.params.toList args.toList (s.fn H (ds ++ [])).args before)
    (hvars : DataW.TrodVars enc P W' (fun b => decide (b < W.heap.size)) s.vars (s.fn H (ds ++ [])).vars []) (hx : Ext W W') : s.post enc P f false true false false W args v W' :=
  ⟨ds, [], before, [], before, [], hW, hres, hargs, hvars, World.keptBut_mono (fun _ h => h.elim) (World.keptBut_none_iff.2 ⟨hx.os, hx.output, fun k hk => hx.block k hk (fun h => h)⟩), fun h => by cases h⟩
theorem call_ends {f : FuncId} {args : List Value} {w : World} (h : ∀ K X, (∀ w', Ext w w' → K (.bool true) w') → call P f args w K X) : Calls P f args.toArray w fun e w' => e = .returned (.bool true) ∧ Ext w w' :=
  Calls.mono (h (fun v w' => v = .bool true ∧ Ext w w') (fun _ _ => False) (fun w' hx => ⟨rfl, hx⟩)) fun e w' he => by
    cases e with
    | returned v => exact ⟨by rw [he.1], he.2⟩
    | panicked c => exact he.elim
    | outgrown => exact he.elim
end Go.Proofs.YtgfbkmclekafbaaGreatDoor

/- The arguments of the script's laws: a plan, steps. -/
set_option maxRecDepth 100000
namespace Go.Proofs.YtgfbkmclekafbaaGreatDoor
open Go Go.Vc
open Go.ChangeShapes Go.WideShapes Go.ChangeAt Go.RowKit

theorem cells_i : P.cellsOf 3 = 1 := by kernel_rfl
theorem cells_l : P.cellsOf 2 = 1 := by kernel_rfl
theorem cells_u : P.cellsOf 41 = 1 := by kernel_rfl
theorem cells_f : P.cellsOf 42 = 1 := by kernel_rfl
theorem cells_so : P.cellsOf 22 = 1 := by kernel_rfl
theorem cells_rec : P.cellsOf 44 = 2 := by kernel_rfl
theorem cells_op : P.cellsOf 49 = 3 := by kernel_rfl
theorem cells_st : P.cellsOf 46 = 5 := by kernel_rfl
theorem cells_pl : P.cellsOf 24 = 8 := by kernel_rfl

section
variable {H : Type} {enc : TypeId × Value → H} {w : World} {base : Nat} {spare : Nat → Bool} {held : Bool}

theorem open_opR {n : Nat} {c : List Value} {y : DataW H × List MemPlace} (h : DataW.trod enc P w base spare held n 49 c = some y) : ∃ o : OpR, c = o.cells ∧ o.wf := by
  obtain ⟨xs, m, _, rfl, hl, hlen, hf⟩ := DataW.trod_struct Go.Proofs.Tryz.underlying49 h
  rw [cells_op] at hl
  match xs, hlen, hf with
  | [x0, x1, x2], _, hf =>
  match c, hl, hf with
  | [c0, c1, c2], _, hf =>
  obtain ⟨n0, e0, a0, b0⟩ := open_i64 (x := x0) Go.Proofs.Tryz.underlying3 (hf 0 _ rfl)
  obtain ⟨n1, e1, a1, b1⟩ := open_i64 (x := x1) Go.Proofs.Tryz.underlying2 (hf 1 _ rfl)
  obtain ⟨n2, e2, a2⟩ := open_f64 (x := x2) Go.Proofs.Tryz.underlying42 (hf 2 _ rfl)
  simp [cells_i, cells_l, cells_f] at e0 e1 e2
  subst e0 e1 e2
  exact ⟨⟨n0, n1, n2⟩, rfl, ⟨a0, b0, a1, b1, a2⟩⟩

theorem open_recR {n : Nat} {c : List Value} {y : DataW H × List MemPlace} (h : DataW.trod enc P w base spare held n 44 c = some y) : ∃ k v : Nat, c = [.int .u64 k, .float .f64 v] ∧ k < 18446744073709551616 ∧ v < 18446744073709551616 := by
  obtain ⟨xs, m, _, rfl, hl, hlen, hf⟩ := DataW.trod_struct Go.Proofs.Tryz.underlying44 h
  rw [cells_rec] at hl
  match xs, hlen, hf with
  | [x0, x1], _, hf =>
  match c, hl, hf with
  | [c0, c1], _, hf =>
  obtain ⟨n0, e0, a0⟩ := open_u64 (x := x0) Go.Proofs.Tryz.underlying41 (hf 0 _ rfl)
  obtain ⟨n1, e1, a1⟩ := open_f64 (x := x1) Go.Proofs.Tryz.underlying42 (hf 1 _ rfl)
  simp [cells_u, cells_f] at e0 e1
  subst e0 e1
  exact ⟨n0, n1, rfl, a0, a1⟩

theorem open_stR {n : Nat} {c : List Value} {y : DataW H × List MemPlace} (h : DataW.trod enc P w base spare held n 46 c = some y) : ∃ t : St, c = t.cells ∧ t.wf := by
  obtain ⟨xs, m, _, rfl, hl, hlen, hf⟩ := DataW.trod_struct Go.Proofs.Tryz.underlying46 h
  rw [cells_st] at hl
  match xs, hlen, hf with
  | [x0, x1, x2, x3], _, hf =>
  match c, hl, hf with
  | [c0, c1, c2, c3, c4], _, hf =>
  obtain ⟨n0, e0, a0, b0⟩ := open_i64 (x := x0) Go.Proofs.Tryz.underlying3 (hf 0 _ rfl)
  obtain ⟨n1, e1, a1, b1⟩ := open_i64 (x := x1) Go.Proofs.Tryz.underlying3 (hf 1 _ rfl)
  obtain ⟨n2, e2, a2, b2⟩ := open_i64 (x := x2) Go.Proofs.Tryz.underlying3 (hf 2 _ rfl)
  obtain ⟨k, v, e3, a3, b3⟩ := open_recR (y := x3) (hf 3 _ rfl)
  simp [cells_i, cells_rec] at e0 e1 e2 e3
  obtain ⟨e3, e4⟩ := e3
  subst e0 e1 e2 e3 e4
  exact ⟨⟨n0, n1, n2, k, v⟩, rfl, ⟨a1, b1, a2, b2, a3, b3⟩⟩

theorem open_ops {n : Nat} {c : List Value} {y : DataW H × List MemPlace} (h : DataW.trod enc P w base spare held n 22 c = some y) :
    ∃ (q : Option Addr) (l cp : Nat) (zs : List OpR), c = [.slice q l cp] ∧ zs.length = l ∧ Cells w q (opsCells zs) ∧ (∀ a ∈ zs, a.wf) ∧ l ≤ cp ∧ cp ≤ maxLen ∧ ((y.1 = .nil ∧ l = 0) ∨ ∃ es sp, y.1 = .slice es sp ∧ es.length = l) :=
  open_rows (f := OpR.cells) (good := OpR.wf) Go.Proofs.Tryz.underlying22 cells_op (by decide) (fun _ => rfl) (fun _ _ _ h => open_opR h) h
theorem open_steps {n : Nat} {c : List Value} {y : DataW H × List MemPlace} (h : DataW.trod enc P w base spare held n 25 c = some y) :
    ∃ (q : Option Addr) (l cp : Nat) (zs : List St), c = [.slice q l cp] ∧ zs.length = l ∧ Cells w q (stepsCells zs) ∧ (∀ a ∈ zs, a.wf) ∧ l ≤ cp ∧ cp ≤ maxLen ∧ ((y.1 = .nil ∧ l = 0) ∨ ∃ es sp, y.1 = .slice es sp ∧ es.length = l) :=
  open_rows (f := St.cells) (good := St.wf) Go.Proofs.Tryz.underlying25 cells_st (by decide) (fun _ => rfl) (fun _ _ _ h => open_stR h) h

theorem open_planR {n : Nat} {c : List Value} {y : DataW H × List MemPlace} (h : DataW.trod enc P w base spare held n 24 c = some y) :
    ∃ (p : PlanR) (oq : Option Addr) (ol oc : Nat), c = p.cells oq ol oc ∧ p.wf ∧ Cells w oq (opsCells p.ops) ∧ ol = p.ops.length ∧ ol ≤ oc ∧ oc ≤ maxLen ∧ (∃ parts d, y.1 = .agg parts ∧ d ∈ parts ∧ ((d = .nil ∧ ol = 0) ∨ ∃ es sp, d = .slice es sp ∧ es.length = ol)) := by
  obtain ⟨xs, m, _, rfl, hl, hlen, hf⟩ := DataW.trod_struct Go.Proofs.Tryz.underlying24 h
  rw [cells_pl] at hl
  match xs, hlen, hf with
  | [x0, x1, x2, x3, x4, x5, x6, x7], _, hf =>
  match c, hl, hf with
  | [c0, c1, c2, c3, c4, c5, c6, c7], _, hf =>
  obtain ⟨n0, e0, a0, b0⟩ := open_i64 (x := x0) Go.Proofs.Tryz.underlying3 (hf 0 _ rfl)
  obtain ⟨n1, e1, a1, b1⟩ := open_i64 (x := x1) Go.Proofs.Tryz.underlying3 (hf 1 _ rfl)
  obtain ⟨n2, e2, a2, b2⟩ := open_i64 (x := x2) Go.Proofs.Tryz.underlying3 (hf 2 _ rfl)
  obtain ⟨q, l, cp, zs, e3, g1, g2, g3, g4, g5, g6⟩ := open_ops (y := x3) (hf 3 _ rfl)
  obtain ⟨n4, e4, a4, b4⟩ := open_i64 (x := x4) Go.Proofs.Tryz.underlying3 (hf 4 _ rfl)
  obtain ⟨n5, e5, a5, b5⟩ := open_i64 (x := x5) Go.Proofs.Tryz.underlying3 (hf 5 _ rfl)
  obtain ⟨n6, e6, a6, b6⟩ := open_i64 (x := x6) Go.Proofs.Tryz.underlying3 (hf 6 _ rfl)
  obtain ⟨n7, e7, a7, b7⟩ := open_i64 (x := x7) Go.Proofs.Tryz.underlying3 (hf 7 _ rfl)
  simp [cells_i, cells_so] at e0 e1 e2 e3 e4 e5 e6 e7
  subst e0 e1 e2 e3 e4 e5 e6 e7
  refine ⟨⟨n0, n1, n2, zs, n4, n5, n6, n7⟩, q, l, cp, rfl, ⟨?_, g3⟩, g2, g1.symm, g4, g5, _, x3.1, rfl, by simp, g6⟩
  intro n hn
  simp only [PlanR.nums, List.mem_cons, List.not_mem_nil, or_false] at hn
  rcases hn with rfl | rfl | rfl | rfl | rfl | rfl | rfl
  · exact ⟨a0, b0⟩
  · exact ⟨a1, b1⟩
  · exact ⟨a2, b2⟩
  · exact ⟨a4, b4⟩
  · exact ⟨a5, b5⟩
  · exact ⟨a6, b6⟩
  · exact ⟨a7, b7⟩

theorem open_plan_arg {r : Reach} {b0 : Nat} {v : Value} {d : DataW H} {ps : List MemPlace} (hval : Value.okWide P w r b0 24 v) (h : DataW.Trod enc P w base spare held 24 v d ps) :
    ∃ (p : PlanR) (oq : Option Addr) (ol oc : Nat), v = .agg (p.cells oq ol oc).toArray ∧ p.wf ∧ Cells w oq (opsCells p.ops) ∧ ol = p.ops.length ∧ ol ≤ oc ∧ oc ≤ maxLen ∧ (∃ parts d', d = .agg parts ∧ d' ∈ parts ∧ ((d' = .nil ∧ ol = 0) ∨ ∃ es sp, d' = .slice es sp ∧ es.length = ol)) := by
  obtain ⟨cs, rfl, _⟩ := okWide_struct Go.Proofs.Tryz.underlying24 hval
  obtain ⟨n, hn⟩ := h
  obtain ⟨p, oq, ol, oc, e, hh⟩ := open_planR hn
  have e : cs.toList = p.cells oq ol oc := e
  refine ⟨p, oq, ol, oc, ?_, hh⟩
  rw [← e]
theorem open_steps_arg {r : Reach} {b0 : Nat} {v : Value} {d : DataW H} {ps : List MemPlace} (hval : Value.okWide P w r b0 25 v) (h : DataW.Trod enc P w base spare held 25 v d ps) :
    ∃ (q : Option Addr) (l cp : Nat) (zs : List St), v = .slice q l cp ∧ zs.length = l ∧ Cells w q (stepsCells zs) ∧ (∀ a ∈ zs, a.wf) ∧ l ≤ cp ∧ cp ≤ maxLen ∧ ((d = .nil ∧ l = 0) ∨ ∃ es sp, d = .slice es sp ∧ es.length = l) := by
  obtain ⟨a, len, cap, rfl⟩ := okWide_slice Go.Proofs.Tryz.underlying25 hval
  obtain ⟨n, hn⟩ := h
  obtain ⟨q, l, cp, zs, e, hh⟩ := open_steps hn
  have e : [Value.slice a len cap] = [.slice q l cp] := e
  simp only [List.cons.injEq, and_true] at e
  exact ⟨q, l, cp, zs, e, hh⟩
end
end Go.Proofs.YtgfbkmclekafbaaGreatDoor
