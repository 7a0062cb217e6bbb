/-
  DATA: a number's text.
-/
import Derived.Test.YtlnmmakbgldflaaDoorDg
import Derived.Lib.ItoaNum
set_option linter.unusedSimpArgs false
set_option linter.unusedVariables false
set_option maxRecDepth 100000
namespace Go.Proofs.YtlnmmakbgldflaaDoor.Vc
open Go

theorem nDigits_le : ∀ (k u : Nat), u < 10 ^ (k + 1) → Lib.nDigits u ≤ k + 1
  | 0, u, h => by rw [Lib.nDigits_small (by simpa using h)]; omega
  | k + 1, u, h => by
    by_cases h1 : u < 10
    · rw [Lib.nDigits_small h1]; omega
    · rw [Lib.nDigits_big h1]
      have := nDigits_le k (u / 10) (by rw [Nat.pow_succ] at h; omega)
      omega
theorem digits_len (n : Nat) (h : n ≤ 9223372036854775808) : (Lib.decDigits n).length ≤ 20 := by
  rw [Lib.decDigits_length]
  exact nDigits_le 19 n (by omega)

theorem tmod10 (n : Int) : (0 ≤ n → n.tmod 10 = ((n.natAbs % 10 : Nat) : Int)) ∧ (n ≤ 0 → n.tmod 10 = -((n.natAbs % 10 : Nat) : Int)) := by
  constructor
  · intro h; rw [Int.tmod_eq_emod_of_nonneg h]; omega
  · intro h
    have : n = -(-n) := by omega
    rw [this, Int.neg_tmod, Int.tmod_eq_emod_of_nonneg (by omega)]; omega
theorem tdiv10 (n : Int) : (0 ≤ n → n.tdiv 10 = ((n.natAbs / 10 : Nat) : Int)) ∧ (n ≤ 0 → n.tdiv 10 = -((n.natAbs / 10 : Nat) : Int)) := by
  constructor
  · intro h; rw [Int.tdiv_eq_ediv_of_nonneg h]; omega
  · intro h
    have : n = -(-n) := by omega
    rw [this, Int.neg_tdiv, Int.tdiv_eq_ediv_of_nonneg (by omega)]; omega
end Go.Proofs.YtlnmmakbgldflaaDoor.Vc

