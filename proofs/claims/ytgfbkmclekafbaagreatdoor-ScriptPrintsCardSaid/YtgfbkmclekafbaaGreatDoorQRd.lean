/- How a reading is read: values of known kinds, whole numbers in their bounds, branches, rows that grow. No program in sight. -/
import Derived.Test.YtgfbkmclekafbaaGreatDoorQHp
import Derived.Lib.AppendStr
import Derived.Laws.Strings
import Derived.Laws.BitsAllLaws
set_option linter.unusedVariables false
set_option linter.unusedSimpArgs false
set_option linter.unnecessarySimpa false
namespace Go.Vc
open Go Go.RowKit
variable {P : Program}

theorem asI_at {k : IntKind} {n : Int} {K : Int → Prop} : asI k (.int k n) K = K n := by simp [asI]
theorem asB_at {b : Bool} {K : Bool → Prop} : asB (.bool b) K = K b := rfl
theorem asS_at {s : ByteArray} {K : ByteArray → Prop} : asS (.string s) K = K s := rfl
theorem asF_at {k : FloatKind} {n : Nat} {K : Nat → Prop} : asF k (.float k n) K = K n := by simp [asF]
theorem asP_at {a : Option Addr} {K : Option Addr → Prop} : asP (.pointer a) K = K a := rfl
theorem asL_at {a : Option Addr} {l c : Nat} {K : Option Addr → Nat → Nat → Prop} : asL (.slice a l c) K = K a l c := rfl
theorem asM_at {a : Option Nat} {K : Option Nat → Prop} : asM (.map a) K = K a := rfl
theorem agN_el {n : Nat} {l : List Value} {K : Cur n} : agN n (.agg l.toArray) K = app n K l := by simp [agN]
theorem tuN_el {n : Nat} {l : List Value} {K : Cur n} : tuN n (.tuple l.toArray) K = app n K l := by simp [tuN]
theorem app_cons {n : Nat} {F : Cur (n + 1)} {v : Value} {r : List Value} : app (n + 1) F (v :: r) = app n (F v) r := rfl
theorem app_nil {F : Cur 0} : app 0 F [] = F := rfl
theorem nn_at {d : Addr} {K : Addr → Prop} : nn (some d) K = K d := rfl
theorem ifOk_nil : ifOk .nilIface = true := rfl
theorem ifOk_if {t : TypeId} {v : Value} : ifOk (.iface t v) = true := rfl
theorem nilI_nil : nilI .nilIface = true := rfl
theorem nilI_if {t : TypeId} {v : Value} : nilI (.iface t v) = false := rfl
theorem nb_t {b : Bool} : nb true b = !b := rfl
theorem nb_f {b : Bool} : nb false b = b := rfl
theorem oc_el {K : Prop} : oc true K = K := rfl
theorem iEq_t {a b : Int} : (iEq a b = true) = (a = b) := by simp [iEq]
theorem iEq_f {a b : Int} : (iEq a b = false) = ¬ (a = b) := by simp [iEq]
theorem iNe_t {a b : Int} : (iNe a b = true) = ¬ (a = b) := by simp [iNe]
theorem iNe_f {a b : Int} : (iNe a b = false) = (a = b) := by simp [iNe]
theorem iLt_t {a b : Int} : (iLt a b = true) = (a < b) := by simp [iLt]
theorem iLt_f {a b : Int} : (iLt a b = false) = (b ≤ a) := by simp [iLt]
theorem iLe_t {a b : Int} : (iLe a b = true) = (a ≤ b) := by simp [iLe]
theorem iLe_f {a b : Int} : (iLe a b = false) = (b < a) := by simp [iLe]
theorem iGt_t {a b : Int} : (iGt a b = true) = (b < a) := by simp [iGt]
theorem iGt_f {a b : Int} : (iGt a b = false) = (a ≤ b) := by simp [iGt]
theorem iGe_t {a b : Int} : (iGe a b = true) = (b ≤ a) := by simp [iGe]
theorem iGe_f {a b : Int} : (iGe a b = false) = (a < b) := by simp [iGe]
theorem ba_eq {a b : ByteArray} : a = b ↔ a.toList = b.toList := by
  rw [ByteArray.toList_eq, ByteArray.toList_eq]
  constructor
  · intro h; rw [h]
  · intro h; cases a; cases b; simp only [ByteArray.mk.injEq]; exact Array.toList_inj.1 h
theorem sEq_t {a b : ByteArray} : (sEq a b = true) = (a = b) := by simp only [sEq, ba_eq]; simp
theorem sEq_f {a b : ByteArray} : (sEq a b = false) = ¬ (a = b) := by simp only [sEq, ba_eq]; simp
theorem sNe_t {a b : ByteArray} : (sNe a b = true) = ¬ (a = b) := by simp only [sNe, ba_eq]; simp
theorem sNe_f {a b : ByteArray} : (sNe a b = false) = (a = b) := by simp only [sNe, ba_eq]; simp
theorem lenN_el {n : Nat} : lenN n = (n : Int) := rfl
theorem wrap_i64 {n : Int} (h : -9223372036854775808 ≤ n) (h' : n ≤ 9223372036854775807) : IntKind.i64.wrap n = n := by rw [IntKind.wrap_i64]; omega
theorem wrap_u64 {n : Int} (h : 0 ≤ n) (h' : n ≤ 18446744073709551615) : IntKind.u64.wrap n = n := by rw [IntKind.wrap_u64]; omega
theorem wrap_u8 {n : Int} (h : 0 ≤ n) (h' : n ≤ 255) : IntKind.u8.wrap n = n := by rw [IntKind.wrap_u8]; omega
theorem iAdd_i64 {a b : Int} (h : -9223372036854775808 ≤ a + b) (h' : a + b ≤ 9223372036854775807) : iAdd .i64 a b = a + b := wrap_i64 h h'
theorem iSub_i64 {a b : Int} (h : -9223372036854775808 ≤ a - b) (h' : a - b ≤ 9223372036854775807) : iSub .i64 a b = a - b := wrap_i64 h h'
theorem iMul_i64 {a b : Int} (h : -9223372036854775808 ≤ a * b) (h' : a * b ≤ 9223372036854775807) : iMul .i64 a b = a * b := wrap_i64 h h'
theorem if_t {c : Bool} {A B : Prop} (hc : c = true) (h : A) : cnd c A B := by subst hc; exact h
theorem if_f {c : Bool} {A B : Prop} (hc : c = false) (h : B) : cnd c A B := by subst hc; exact h
theorem nxt_some {x y : Value} {E : Value → Value → Prop} {O : Prop} (h : E x y) : nxt (.tuple #[.bool true, x, y]) E O := h
theorem nxt_none {E : Value → Value → Prop} {O : Prop} (h : O) : nxt (.tuple #[.bool false]) E O := h

theorem runV_ok {s : Sem Value} {w w' : World} {v : Value} {K : Value → World → Prop} {X : List PanicEntry → World → Prop} (h : s.run P w = .ok v w') (hK : K v w') : runV P s w K X := by
  unfold runV; rw [h]; exact hK

/-- a row of one's own: n elements of e, its cells xs -/
def Row (w : World) (e : TypeId) (size : Nat) (a : Option Addr) (n c : Nat) (xs : List Value) : Prop := w.ownsRow 0 e size (.slice a n c) n xs
def blkOf (a : Option Addr) : Option Nat := a.map (·.block)
theorem Row.nil {w : World} {e : TypeId} {size : Nat} : Row w e size none 0 0 [] := World.ownsRow_nil w 0 e size
theorem Row.len {w : World} {e : TypeId} {size : Nat} {a : Option Addr} {n c : Nat} {xs : List Value} (h : Row w e size a n c xs) : xs.length = n * size := h.1
theorem Row.le {w : World} {e : TypeId} {size : Nat} {a : Option Addr} {n c : Nat} {xs : List Value} (h : Row w e size a n c xs) : n ≤ c ∧ c ≤ maxLen := by
  rcases h.2 with ⟨he, hn⟩ | ⟨g, cap, cur, he, _, _, h1, h2, _⟩
  · cases he; exact ⟨Nat.le_refl _, Nat.zero_le _⟩
  · cases he; exact ⟨h1, h2⟩
theorem Row.cells {w : World} {e : TypeId} {size : Nat} {a : Option Addr} {n c : Nat} {xs : List Value} (h : Row w e size a n c xs) : Cells w a xs := by
  rcases h.2 with ⟨he, hn⟩ | ⟨g, cap, cur, he, _, hg, _⟩
  · left; apply List.eq_nil_of_length_eq_zero; rw [h.1, hn]; simp
  · cases he
    exact .inr ⟨_, rfl, rfl, fun i hi => World.ownsRow.cells h (g := g) rfl i _ (List.getElem?_eq_getElem hi)⟩
theorem Row.upd {S : Nat → Prop} {w w' : World} {e : TypeId} {size : Nat} {a : Option Addr} {n c : Nat} {xs : List Value} (h : Row w e size a n c xs) (hu : Upd S w w') (hn : ∀ b, blkOf a = some b → ¬ S b) : Row w' e size a n c xs := by
  refine ⟨h.1, ?_⟩
  rcases h.2 with he | ⟨g, cap, cur, he, hb, hg, rest⟩
  · exact .inl he
  · cases he
    exact .inr ⟨g, c, cur, rfl, hb, hu.blk hg (hn g rfl), rest⟩
theorem Row.ext {w w' : World} {e : TypeId} {size : Nat} {a : Option Addr} {n c : Nat} {xs : List Value} (h : Row w e size a n c xs) (hu : Ext w w') : Row w' e size a n c xs := h.upd hu fun _ _ h => h
theorem Row.lt {w : World} {e : TypeId} {size : Nat} {a : Option Addr} {n c : Nat} {xs : List Value} (h : Row w e size a n c xs) {b : Nat} (hb : blkOf a = some b) : b < w.heap.size := by
  rcases h.2 with ⟨he, _⟩ | ⟨g, cap, cur, he, _, hg, _⟩
  · cases he; cases hb
  · cases he; simp [blkOf] at hb; subst hb; exact blk_lt hg
/-- a block laid out as a row -/
theorem Row.of_blk {w : World} {e : TypeId} {size : Nat} {g n : Nat} {xs : List Value} (h : w.heap[g]? = some (.cells xs.toArray e (0, 0))) (hl : xs.length = n * size) (hm : n ≤ maxLen) : Row w e size (some ⟨g, 0, none⟩) n n xs :=
  ⟨hl, .inr ⟨g, n, xs.toArray, rfl, Nat.zero_le _, h, Nat.le_refl _, hm, by simpa using hl, by simp [← hl]⟩⟩
/-- an empty row with room -/
theorem Row.of_room {w : World} {e : TypeId} {size : Nat} {g c : Nat} {xs : List Value} (h : w.heap[g]? = some (.cells xs.toArray e (0, 0))) (hl : xs.length = c * size) (hm : c ≤ maxLen) : Row w e size (some ⟨g, 0, none⟩) 0 c [] :=
  ⟨by simp, .inr ⟨g, c, xs.toArray, rfl, Nat.zero_le _, h, Nat.zero_le _, hm, by simpa using hl, by simp⟩⟩
/-- the first elements of a row -/
theorem Row.take {w : World} {e : TypeId} {size : Nat} {a : Option Addr} {n c m : Nat} {xs : List Value} (h : Row w e size a n c xs) (hm : m ≤ n) : Row w e size a m c (xs.take (m * size)) := by
  have hlen := h.1
  refine ⟨?_, ?_⟩
  · rw [List.length_take, hlen]; exact Nat.min_eq_left (Nat.mul_le_mul_right _ hm)
  · rcases h.2 with ⟨he, hn⟩ | ⟨g, cap, cur, he, hb, hg, h1, h2, h3, h4⟩
    · cases he; have hm0 : m = 0 := by omega
      subst hm0; exact .inl ⟨rfl, rfl⟩
    · cases he
      refine .inr ⟨g, c, cur, rfl, hb, hg, Nat.le_trans hm h1, h2, h3, ?_⟩
      rw [← h4, List.take_take, Nat.min_eq_left (Nat.mul_le_mul_right _ hm)]

theorem Upd.grown {w w' : World} {row : Option Nat} (h : w.grownBy w' row) : Upd (fun i => row = some i) w w' :=
  ⟨h.os, h.tape, h.output, h.size, fun i hi hn => h.block i hi fun he => hn he.symm⟩
theorem Ext.alloc_drew {w : World} {o : Obj} : Ext w (w.drew.alloc o) := Upd.drew.trans (Upd.alloc o)

/-- a row grows by cells -/
theorem append_row {t ty e : TypeId} {i : TypeInfo} {z : Value} {size bytes : Nat} (ht : P.underlying t = some (.slice e)) (hi : P.info? e = some i) (hz : i.zero = some z)
    (hsize : i.size = size) (hby : i.bytes = bytes) (hzs : z.cells.size = size) (hsz : 0 < size)
    {w : World} {a : Option Addr} {n c : Nat} {xs : List Value} (hown : Row w e size a n c xs)
    {ad : Addr} {m c' : Nat} {news : List Value} (hl : news.length = m * size) (hnews : Cells w (some ad) news) (h1 : ∀ u ∈ news, u.oneCell' = true)
    (hm : 0 < m) (h63 : n + m ≤ maxLen) (hbytes : (n + m) * bytes ≤ 140737488355328) {K : Value → World → Prop} {X : List PanicEntry → World → Prop}
    (hK : ∀ a' c' w', Row w' e size a' (n + m) c' (xs ++ news) → Upd (fun i => blkOf a = some i) w w' → (∀ b, blkOf a' = some b → blkOf a = some b ∨ w.heap.size ≤ b) → K (.slice a' (n + m) c') w') :
    runV P (Builtin.append_ #[t, t] ty #[.slice a n c, .slice (some ad) m c']) w K X := by
  have hne : news ≠ [] := by intro he; rw [he] at hl; simp at hl; have := Nat.mul_pos hm hsz; omega
  have hnews' : ∀ j u, news[j]? = some u → w.cell? (ad.add j) = some u := by
    intro j u hj
    rcases hnews with h | ⟨d, hd, _, hc⟩
    · exact absurd h hne
    · cases hd
      obtain ⟨hlt, he⟩ := List.getElem?_eq_some_iff.1 hj
      rw [hc j hlt, he]
  subst hsize hby
  have hlen : (xs ++ news).length = (n + m) * i.size := by rw [List.length_append, hown.1, hl, Nat.add_mul]
  have grown : ∀ (old : Nat), old < n + m →
      Row (w.drew.alloc (.cells (xs.toArray ++ news.toArray ++ Builtin.zeroCells z.cells (grownCap w (n + m) old e - (n + m))) e)) e i.size (some ⟨w.heap.size, 0, none⟩) (n + m) (grownCap w (n + m) old e) (xs ++ news) := by
    intro old ho
    have hge := grownCap_ge w (n + m) old e
    have hcm : grownCap w (n + m) old e ≤ maxLen := grownCap_le_maxLen w (n + m) old e h63
    refine ⟨hlen, .inr ⟨w.heap.size, _, _, rfl, Nat.zero_le _, heap_alloc_new w.drew _, hge, hcm, ?_, ?_⟩⟩
    · simp only [Array.size_append, List.size_toArray, size_zeroCells, hzs, hown.1, hl, ← Nat.add_mul]
      congr 1
      omega
    · simp only [Array.toList_append, List.append_assoc]
      rw [← List.append_assoc, ← hlen]
      exact List.take_left
  have hsmall : n + m ≤ 9223372036854775807 := by simp only [maxLen] at h63; omega
  rcases hown.2 with ⟨he, hn0⟩ | ⟨g, cap, cur, he, hbg, hg, hnc, hcm, hcs, htake⟩
  · cases he
    have hx : xs = [] := List.eq_nil_of_length_eq_zero (by simpa using hown.1)
    subst hx
    have hr := run_append_nil (P := P) w t ty e i z ht hi hz ad m c' news hl hnews' (by omega) (by omega) (by have hb := hbytes; simp only [Nat.zero_add] at hb; omega)
    have hgr := grown 0 (by omega)
    simp only [Nat.zero_add, List.nil_append, Array.empty_append] at hgr hr
    refine runV_ok hr ?_
    have := hK _ _ _ (by simpa only [Nat.zero_add, List.nil_append] using hgr) Ext.alloc_drew.to (fun b hb => by simp [blkOf] at hb; exact .inr (by omega))
    simpa only [Nat.zero_add] using this
  · cases he
    by_cases hroom : n + m ≤ c
    · have hfit : n * i.size + news.length ≤ cur.size := by rw [hl, hcs, ← Nat.add_mul]; exact Nat.mul_le_mul_right _ hroom
      have hr := run_append_room (P := P) w t ty e i ht hi g n c cur hg ad m c' news hl hnews' h1 hroom hfit
      refine runV_ok hr (hK _ _ _ ⟨hlen, .inr ⟨g, c, _, rfl, Nat.zero_le _, setRow_heap w g cur _ e _ hg, hroom, hcm, ?_, ?_⟩⟩ ⟨rfl, rfl, rfl, by simp, fun k _ hk => setRow_other w g k _ (fun e => hk (by simp [blkOf, e]))⟩ (fun b hb => .inl hb))
      · simp only [List.size_toArray, List.length_append, List.length_take, List.length_drop, Array.length_toList]
        omega
      · rw [htake, ← hlen]
        exact List.take_left
    · have holds : ∀ j u, xs[j]? = some u → w.cell? ((⟨g, 0, none⟩ : Addr).add j) = some u := World.ownsRow.cells hown (g := g) rfl
      have hr := run_append_grow (P := P) w t ty e i z ht hi hz ⟨g, 0, none⟩ n c xs hown.1 holds ad m c' news hl hnews' (by omega) (by omega) (growslice_fits (by omega) hbytes)
      exact runV_ok hr (hK _ _ _ (grown c (by omega)) Ext.alloc_drew.to (fun b hb => by simp [blkOf] at hb; exact .inr (by omega)))

/-- a row of bytes grows by a string -/
theorem append_str {t u ty e : TypeId} {i : TypeInfo} (ht : P.underlying t = some (.slice e)) (hu : P.underlying u = some .string) (hi : P.info? e = some i) (hz : i.zero = some (.int .u8 0))
    (hsize : i.size = 1) (hby : i.bytes = 1) {w : World} {a : Option Addr} {n c : Nat} {xs : List Value} (hown : Row w e 1 a n c xs) {s : ByteArray}
    (h47 : n + s.size ≤ 140737488355328) {K : Value → World → Prop} {X : List PanicEntry → World → Prop}
    (hK : ∀ a' c' w', Row w' e 1 a' (n + s.size) c' (xs ++ Lib.strCells s) → Upd (fun i => blkOf a = some i) w w' → (∀ b, blkOf a' = some b → blkOf a = some b ∨ w.heap.size ≤ b) → K (.slice a' (n + s.size) c') w') :
    runV P (Builtin.append_ #[t, u] ty #[.slice a n c, .string s]) w K X := by
  have h63 : n + s.size ≤ maxLen := by simp only [maxLen]; omega
  have hxl : xs.length = n := by simpa using hown.1
  have hlen : (xs ++ Lib.strCells s).length = (n + s.size) * 1 := by rw [List.length_append, hxl, Lib.strCells_length, Nat.mul_one]
  have grown : ∀ (old : Nat), old < n + s.size →
      Row (w.drew.alloc (.cells (xs.toArray ++ (Lib.strCells s).toArray ++ Builtin.zeroCells (Value.int .u8 0).cells (grownCap w (n + s.size) old e - (n + s.size))) e)) e 1 (some ⟨w.heap.size, 0, none⟩) (n + s.size) (grownCap w (n + s.size) old e) (xs ++ Lib.strCells s) := by
    intro old ho
    have hge := grownCap_ge w (n + s.size) old e
    have hcm : grownCap w (n + s.size) old e ≤ maxLen := grownCap_le_maxLen w (n + s.size) old e h63
    refine ⟨hlen, .inr ⟨w.heap.size, _, _, rfl, Nat.zero_le _, heap_alloc_new w.drew _, hge, hcm, ?_, ?_⟩⟩
    · have hz1 : (Value.int IntKind.u8 0).cells.size = 1 := rfl
      simp only [Array.size_append, List.size_toArray, size_zeroCells, hz1, hxl, Lib.strCells_length]
      omega
    · simp only [Array.toList_append, List.append_assoc]
      rw [← List.append_assoc, ← hlen]
      exact List.take_left
  rcases hown.2 with ⟨he, hn0⟩ | ⟨g, cap, cur, he, hbg, hg, hnc, hcm, hcs, htake⟩
  · cases he
    have hx : xs = [] := List.eq_nil_of_length_eq_zero hxl
    subst hx
    by_cases hm : s.size = 0
    · have hn : Lib.strCells s = [] := List.eq_nil_of_length_eq_zero (by rw [Lib.strCells_length]; exact hm)
      have hf := Lib.run_firstCells_string (P := P) w 1 s
      rw [hm] at hf
      have hr : (Builtin.append_ #[t, u] ty #[.slice none 0 0, .string s]).run P w = .ok (.slice none 0 0) w := by
        simp [Builtin.append_, run_underlying ht, run_underlying hu, sizeOf, typeInfo, hi, hsize, Builtin.lenOf, hm, hf]
      refine runV_ok hr ?_
      have := hK none 0 w (by rw [hm, hn]; exact Row.nil) (Upd.refl _ _) (fun b hb => by simp [blkOf] at hb)
      rw [hm] at this; exact this
    · have hr := run_append_nil_string (P := P) w t u ty e i (.int .u8 0) ht hu hi hz s (by omega) (by omega) (by rw [hby]; omega)
      have hgr := grown 0 (by omega)
      simp only [Nat.zero_add, List.nil_append, Array.empty_append] at hgr
      have e1 : (s.data.map fun b => Value.int .u8 b.toNat) = (Lib.strCells s).toArray := by
        apply Array.ext'
        simp [Lib.strCells]
      rw [e1] at hr
      refine runV_ok hr ?_
      have := hK _ _ _ (by simpa only [Nat.zero_add, List.nil_append] using hgr) Ext.alloc_drew.to (fun b hb => by simp [blkOf] at hb; exact .inr (by omega))
      simpa only [Nat.zero_add] using this
  · cases he
    by_cases hroom : n + s.size ≤ c
    · have hcs' : cur.size = c := by simpa using hcs
      have hr := Lib.run_append_room_string (P := P) w t u ty e i ht hu hi hsize g n c cur hg s hroom (by omega)
      refine runV_ok hr (hK _ _ _ ⟨hlen, .inr ⟨g, c, _, rfl, Nat.zero_le _, setRow_heap w g cur _ e _ hg, hroom, hcm, ?_, ?_⟩⟩ ⟨rfl, rfl, rfl, by simp, fun k _ hk => setRow_other w g k _ (fun e => hk (by simp [blkOf, e]))⟩ (fun b hb => .inl hb))
      · simp only [List.size_toArray, List.length_append, List.length_take, List.length_drop, Array.length_toList, Lib.strCells_length]
        omega
      · have ht' : cur.toList.take n = xs := by simpa using htake
        rw [ht', ← hlen]
        exact List.take_left
    · have holds : ∀ j u, xs[j]? = some u → w.cell? ((⟨g, 0, none⟩ : Addr).add j) = some u := World.ownsRow.cells hown (g := g) rfl
      have hr := Lib.run_append_grow_string (P := P) w t u ty e i (.int .u8 0) ht hu hi hz ⟨g, 0, none⟩ n c xs (by rw [hsize]; simpa using hxl) holds s (by omega) (by omega) (by rw [hby]; exact growslice_fits (by omega) (by omega))
      exact runV_ok hr (hK _ _ _ (grown c (by omega)) Ext.alloc_drew.to (fun b hb => by simp [blkOf] at hb; exact .inr (by omega)))
end Go.Vc
