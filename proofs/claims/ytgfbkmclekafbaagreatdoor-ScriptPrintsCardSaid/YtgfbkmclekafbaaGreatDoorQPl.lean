/- Numerals read back. No program, no model's run. -/
import Derived.Lib.AtoiAll
import Derived.Lib.ItoaNum
import Derived.Lib.AtoiAllMem
set_option linter.unusedVariables false
set_option linter.unusedSimpArgs false
set_option linter.unnecessarySimpa false
namespace Go.Vc
open Go

theorem parse_snoc : ∀ (l : List UInt8) (acc m : Nat) (c : UInt8), Lib.parseUint10 acc l = .ok m → 48 ≤ c.toNat → c.toNat ≤ 57 → m * 10 + (c.toNat - 48) < 18446744073709551616 → Lib.parseUint10 acc (l ++ [c]) = .ok (m * 10 + (c.toNat - 48))
  | [], acc, m, c, h, h1, h2, h3 => by
    simp only [Lib.parseUint10, Lib.NumEnd.ok.injEq] at h
    subst h
    simp only [List.nil_append, Lib.parseUint10]
    rw [if_pos ⟨h1, h2⟩, if_neg (by omega), if_neg (by omega)]
  | x :: r, acc, m, c, h, h1, h2, h3 => by
    simp only [List.cons_append, Lib.parseUint10] at h ⊢
    split at h
    · rename_i hx
      rw [if_pos hx]
      split at h
      · cases h
      · rename_i hy
        rw [if_neg hy]
        split at h
        · cases h
        · rename_i hz
          rw [if_neg hz]
          exact parse_snoc r _ m c h h1 h2 h3
    · cases h
theorem digit_toNat (d : Nat) (h : d < 10) : (UInt8.ofNat (48 + d)).toNat = 48 + d := by
  rw [UInt8.toNat_ofNat']; omega
theorem parse_dec (n : Nat) : n < 18446744073709551616 → Lib.parseUint10 0 (Lib.decDigits n) = .ok n := by
  induction n using Nat.strongRecOn with
  | _ n ih =>
    intro hn
    rw [Lib.decDigits]
    split
    · rename_i h
      have hd := digit_toNat n h
      have := parse_snoc [] 0 0 (UInt8.ofNat (48 + n)) rfl (by omega) (by omega) (by omega)
      rw [hd] at this
      simpa using this
    · rename_i h
      have hd := digit_toNat (n % 10) (by omega)
      have := parse_snoc _ 0 (n / 10) (UInt8.ofNat (48 + n % 10)) (ih (n / 10) (by omega) (by omega)) (by omega) (by omega) (by omega)
      rw [this, hd]
      congr 1; omega
theorem dec_ne (n : Nat) : Lib.decDigits n ≠ [] := by
  rw [Lib.decDigits]; split <;> simp
theorem mag_dec {n : Nat} (h : n < 18446744073709551616) : Lib.parseMag (Lib.decDigits n) = .ok n := by
  unfold Lib.parseMag; rw [if_neg (dec_ne n)]; exact parse_dec n h
theorem dec_first : ∀ (n : Nat), ∃ c r, Lib.decDigits n = c :: r ∧ 48 ≤ c.toNat ∧ c.toNat ≤ 57 := by
  intro n
  induction n using Nat.strongRecOn with
  | _ n ih =>
    rw [Lib.decDigits]
    split
    · rename_i h
      exact ⟨_, [], rfl, by rw [digit_toNat n h]; omega, by rw [digit_toNat n h]; omega⟩
    · rename_i h
      obtain ⟨c, r, he, h1, h2⟩ := ih (n / 10) (by omega)
      exact ⟨c, r ++ [UInt8.ofNat (48 + n % 10)], by rw [he]; rfl, h1, h2⟩
theorem atoi_itoa {n : Int} (h0 : -9223372036854775808 ≤ n) (h1 : n ≤ 9223372036854775807) : Lib.atoiAll (Lib.itoa n) = .ok n := by
  unfold Lib.itoa
  split
  · rename_i hneg
    have hm := mag_dec (n := n.natAbs) (by omega)
    unfold Lib.atoiAll
    simp only [show (45 : UInt8).toNat = 45 from rfl, or_true, if_true, hm]
    have e45 : (45 : UInt8).toNat = 45 := rfl
    simp only [e45, not_true_eq_false, false_and, if_false, true_and, if_true]
    rw [if_neg (by omega)]
    congr 1; omega
  · rename_i hpos
    obtain ⟨c, r, he, hc1, hc2⟩ := dec_first n.toNat
    have hm := mag_dec (n := n.toNat) (by omega)
    rw [he] at hm ⊢
    unfold Lib.atoiAll
    simp only
    rw [if_neg (by omega), hm]
    simp only
    rw [if_neg (by omega), if_neg (by omega), if_neg (by omega)]
    congr 1; omega
end Go.Vc
