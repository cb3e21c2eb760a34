/- The law ScalarClamps returns true whatever the input: T1 of its proof; no condition. (Joined by wip/shake.py.) -/
import Derived.Test.YtdaehflffecllaaMScalarClampsT0
import Derived.Laws.Bits64b
namespace Go.Proofs.Ytdaehflffecllaa.T
open Go.RowKit Go.Proofs.YtdaehflffecllaaW.PrintWords
theorem two_pos (s : Nat) : (0 : Int) < 2 ^ s := Int.pow_pos (by omega)
theorem ediv_nn {a b : Int} (h : 0 ≤ a) (hb : 0 ≤ b) : 0 ≤ a / b := Int.ediv_nonneg h hb
theorem tdiv_nat (i j : Nat) : Int.tdiv (i : Int) (j : Int) = ((i / j : Nat) : Int) := by rw [Int.tdiv_eq_ediv_of_nonneg (by omega), Int.natCast_ediv]
theorem tmod_nat (i j : Nat) : Int.tmod (i : Int) (j : Int) = ((i % j : Nat) : Int) := by rw [Int.tmod_eq_emod_of_nonneg (by omega), Int.natCast_emod]
theorem mod_pow_div (m : Int) (w r : Nat) (h : r < w) : (m % 2 ^ w) / 2 ^ r % 2 = m / 2 ^ r % 2 := by
  have e1 : (2 : Int) ^ w = 2 ^ r * (2 * 2 ^ (w - r - 1)) := by
    rw [← Int.pow_succ', ← Int.pow_add]
    congr 1; omega
  have e2 : m = m % 2 ^ w + 2 ^ r * (2 * (2 ^ (w - r - 1) * (m / 2 ^ w))) := by
    have := Int.emod_add_mul_ediv m (2 ^ w)
    conv at this => lhs; rw [e1]
    rw [e1]; rw [← this]
    conv => lhs; rw [this]
    grind
  conv => rhs; rw [e2]
  rw [Int.add_mul_ediv_left _ _ (by have := two_pos r; omega), Int.add_mul_emod_self_left]
/-- A bit of a digit is a bit of the number. -/
theorem digit_bit (n : Int) (w q r : Nat) (h : r < w) : n / (2 ^ w) ^ q % 2 ^ w / 2 ^ r % 2 = n / 2 ^ (w * q + r) % 2 := by
  rw [mod_pow_div _ w r h, ← Int.pow_mul, Int.ediv_ediv_of_nonneg (Int.le_of_lt (two_pos _)), ← Int.pow_add]
/-- The bit at a place; 0 below 0. -/
def bitv (n i : Int) : Int := if i < 0 then 0 else n / 2 ^ i.toNat % 2
theorem bitv_nat (n : Int) (i : Nat) : bitv n (i : Int) = n / 2 ^ i % 2 := by unfold bitv; rw [if_neg (by omega), Int.toNat_natCast]
def nbit (n : Int) : Int := if n ≤ 0 then 0 else (n.toNat.log2 : Int) + 1
theorem nbit_unique {n : Int} {m : Nat} (h0 : 2 ^ m ≤ n) (h1 : n < 2 ^ (m + 1)) : nbit n = m + 1 := by
  have hp := two_pos m
  unfold nbit
  rw [if_neg (by omega)]
  congr 1
  obtain ⟨a, rfl⟩ := Int.eq_ofNat_of_zero_le (show 0 ≤ n by omega)
  rw [Int.toNat_natCast]
  have e0 : 2 ^ m ≤ a := by have : ((2 ^ m : Nat) : Int) ≤ a := by rw [Int.natCast_pow]; exact h0
                            omega
  have e1 : a < 2 ^ (m + 1) := by have : (a : Int) < ((2 ^ (m + 1) : Nat) : Int) := by rw [Int.natCast_pow]; exact h1
                                  omega
  have h2 : m ≤ a.log2 := (Nat.le_log2 (by have := Nat.two_pow_pos m; omega)).2 e0
  have h3 : a.log2 < m + 1 := (Nat.log2_lt (by have := Nat.two_pow_pos m; omega)).2 e1
  omega
end Go.Proofs.Ytdaehflffecllaa.T
