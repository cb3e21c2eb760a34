/- The law DigitsNaf returns true whatever the input: E0 of its proof; no condition. (Joined by wip/shake.py.) -/
import Derived.Test.YtdaehflffecllaaMDigitsNafT1
namespace Go.Proofs.Ytdaehflffecllaa.T
open Go.RowKit Go.Proofs.YtdaehflffecllaaW.PrintWords
theorem pow_half (b : Nat) (hb : 1 ≤ b) : (2 : Int) ^ b = 2 * 2 ^ (b - 1) := by
  rw [show b = b - 1 + 1 by omega, Int.pow_succ, show b - 1 + 1 - 1 = b - 1 by omega, Int.mul_comm]
/-- The digit of what is left. -/
def nd (b : Nat) (m : Int) : Int := if m % 2 = 0 then 0 else if 2 ^ (b - 1) ≤ m % 2 ^ b then m % 2 ^ b - 2 ^ b else m % 2 ^ b
/-- What is left after so many digits; the digits. -/
def nafM (N : Int) (b : Nat) : Nat → Int
  | 0 => N
  | i + 1 => (nafM N b i - nd b (nafM N b i)) / 2
def nafD (N : Int) (b i : Nat) : Int := nd b (nafM N b i)
theorem mod_pow_two (m : Int) (b : Nat) (hb : 1 ≤ b) : m % 2 ^ b % 2 = m % 2 := by
  have := mod_pow_div m b 0 (by omega)
  simpa using this
theorem nd_zero {b : Nat} {m : Int} (h : m % 2 = 0) : nd b m = 0 := by unfold nd; rw [if_pos h]
/-- An odd one's digit. -/
theorem nd_odd {b : Nat} {m : Int} (hb : 1 ≤ b) (h : ¬ m % 2 = 0) : nd b m % 2 = 1 ∧ -(2 ^ (b - 1)) ≤ nd b m ∧ nd b m < 2 ^ (b - 1) ∧ (m - nd b m) % 2 ^ b = 0 := by
  have hp := two_pos b
  have hh := pow_half b hb
  have h1 := mod_pow_two m b hb
  have h2 := Int.emod_lt_of_pos m hp
  have h3 := Int.emod_nonneg m (show (2 : Int) ^ b ≠ 0 by omega)
  have h4 := Int.emod_add_mul_ediv m (2 ^ b)
  unfold nd
  rw [if_neg h]
  split
  · refine ⟨by omega, by omega, by omega, ?_⟩
    have e : m - (m % 2 ^ b - 2 ^ b) = 2 ^ b * (m / 2 ^ b + 1) := by rw [Int.mul_add]; omega
    rw [e, Int.mul_emod_right]
  · refine ⟨by omega, by omega, by omega, ?_⟩
    have e : m - m % 2 ^ b = 2 ^ b * (m / 2 ^ b) := by omega
    rw [e, Int.mul_emod_right]
theorem nd_bd {b : Nat} (m : Int) (hb : 1 ≤ b) : -(2 ^ (b - 1)) ≤ nd b m ∧ nd b m < 2 ^ (b - 1) := by
  by_cases h : m % 2 = 0
  · rw [nd_zero h]; have := two_pos (b - 1); omega
  · exact ⟨(nd_odd hb h).2.1, (nd_odd hb h).2.2.1⟩
theorem nd_even {b : Nat} (m : Int) (hb : 1 ≤ b) : (m - nd b m) % 2 = 0 := by
  by_cases h : m % 2 = 0
  · rw [nd_zero h]; omega
  · have := (nd_odd hb h).1; omega
theorem nafM_succ (N : Int) (b i : Nat) (hb : 1 ≤ b) : nafM N b i = nafD N b i + 2 * nafM N b (i + 1) := by
  have h := nd_even (b := b) (nafM N b i) hb
  show _ = nd b (nafM N b i) + 2 * ((nafM N b i - nd b (nafM N b i)) / 2)
  omega
theorem nafM_nonneg {N : Int} (b : Nat) (hb : 1 ≤ b) (h : 0 ≤ N) : ∀ i, 0 ≤ nafM N b i
  | 0 => h
  | i + 1 => by
    have ih := nafM_nonneg b hb h i
    show 0 ≤ (nafM N b i - nd b (nafM N b i)) / 2
    suffices nd b (nafM N b i) ≤ nafM N b i by omega
    by_cases h0 : nafM N b i % 2 = 0
    · rw [nd_zero h0]; exact ih
    · have hh := pow_half b hb
      have hp := two_pos b
      have h2 := Int.emod_lt_of_pos (nafM N b i) hp
      have h4 := Int.emod_add_mul_ediv (nafM N b i) (2 ^ b)
      have h5 : 0 ≤ 2 ^ b * (nafM N b i / 2 ^ b) := Int.mul_nonneg (by omega) (ediv_nn ih (by omega))
      unfold nd
      rw [if_neg h0]
      split <;> omega
/-- What is left is at most 2^(n-i). -/
theorem naf_step {m : Int} (b k : Nat) (hb : 2 ≤ b) (h0 : 0 ≤ m) (h : m ≤ 2 ^ (k + 1)) : (m - nd b m) / 2 ≤ 2 ^ k := by
  have hk : (2 : Int) ^ (k + 1) = 2 ^ k * 2 := Int.pow_succ ..
  by_cases he : m % 2 = 0
  · rw [nd_zero he]; omega
  · have hb' := nd_odd (b := b) (by omega) he
    have hh := pow_half b (by omega)
    have hp := two_pos (b - 1)
    by_cases hkb : b ≤ k + 1
    · have e : (2 : Int) ^ (k + 1) = 2 ^ b * 2 ^ (k + 1 - b) := by rw [← Int.pow_add]; congr 1; omega
      have e2 : m - nd b m = 2 ^ b * ((m - nd b m) / 2 ^ b) := by
        have := Int.emod_add_mul_ediv (m - nd b m) (2 ^ b); omega
      have hq : (m - nd b m) / 2 ^ b ≤ 2 ^ (k + 1 - b) := by
        by_cases hc : (m - nd b m) / 2 ^ b ≤ 2 ^ (k + 1 - b)
        · exact hc
        · have : 2 ^ b * (2 ^ (k + 1 - b) + 1) ≤ 2 ^ b * ((m - nd b m) / 2 ^ b) := Int.mul_le_mul_of_nonneg_left (by omega) (by omega)
          rw [Int.mul_add] at this
          omega
      have := Int.mul_le_mul_of_nonneg_left hq (show (0 : Int) ≤ 2 ^ b by omega)
      omega
    · have hle : (2 : Int) ^ (k + 1) ≤ 2 ^ (b - 1) := pow_le (by omega) (by omega)
      have hne : ¬ m = 2 ^ (b - 1) := by
        intro e
        have : (2 : Int) ^ (b - 1) = 2 * 2 ^ (b - 1 - 1) := pow_half (b - 1) (by omega)
        omega
      have hm : m % 2 ^ b = m := Int.emod_eq_of_lt h0 (by omega)
      have : nd b m = m := by unfold nd; rw [if_neg he, hm, if_neg (by omega)]
      rw [this]
      have := two_pos k
      omega
theorem nafM_le {N : Int} (b n : Nat) (hb : 2 ≤ b) (h0 : 0 ≤ N) (h : N ≤ 2 ^ n) : ∀ i, i ≤ n → nafM N b i ≤ 2 ^ (n - i)
  | 0, _ => h
  | i + 1, hi => by
    have ih := nafM_le b n hb h0 h i (by omega)
    rw [show n - i = n - (i + 1) + 1 by omega] at ih
    exact naf_step b _ hb (nafM_nonneg b (by omega) h0 i) ih
theorem nafM_end {N : Int} (b n : Nat) (hb : 2 ≤ b) (h0 : 0 ≤ N) (h : N ≤ 2 ^ n) : nafM N b (n + 1) = 0 := by
  have h1 := nafM_le b n hb h0 h n (Nat.le_refl n)
  have h2 := nafM_nonneg b (by omega) h0 n
  rw [Nat.sub_self, show (2 : Int) ^ 0 = 1 from rfl] at h1
  show (nafM N b n - nd b (nafM N b n)) / 2 = 0
  rcases (show nafM N b n = 0 ∨ nafM N b n = 1 by omega) with e | e
  · rw [e, nd_zero rfl]; rfl
  · have hp : (2 : Int) ^ 1 ≤ 2 ^ (b - 1) := pow_le (by omega) (by omega)
    have hh := pow_half b (by omega)
    rw [show (2 : Int) ^ 1 = 2 from rfl] at hp
    have : nd b 1 = 1 := by unfold nd; rw [if_neg (by omega), Int.emod_eq_of_lt (by omega) (by omega), if_neg (by omega)]
    rw [e, this]; rfl
/-- Behind a digit that is not nought so many are. -/
theorem naf_gap (N : Int) (b i : Nat) (hb : 1 ≤ b) (h : ¬ nafD N b i = 0) : ∀ j, j + 1 < b → nafD N b (i + 1 + j) = 0 ∧ nafM N b (i + 1 + j) = 2 ^ (b - 1 - j) * ((nafM N b i - nafD N b i) / 2 ^ b) := by
  have ho : ¬ nafM N b i % 2 = 0 := fun e => h (nd_zero e)
  have h1 := nd_odd hb ho
  have e2 : nafM N b i - nafD N b i = 2 ^ b * ((nafM N b i - nafD N b i) / 2 ^ b) := by
    have h2 : (nafM N b i - nafD N b i) % 2 ^ b = 0 := h1.2.2.2
    have := Int.emod_add_mul_ediv (nafM N b i - nafD N b i) (2 ^ b); omega
  have hh := pow_half b hb
  have key : ∀ j, j + 1 < b → nafM N b (i + 1 + j) = 2 ^ (b - 1 - j) * ((nafM N b i - nafD N b i) / 2 ^ b) → nafD N b (i + 1 + j) = 0 := by
    intro j hj e
    refine nd_zero ?_
    rw [e, show b - 1 - j = b - 1 - j - 1 + 1 by omega, Int.pow_succ, Int.mul_assoc, Int.mul_comm 2, ← Int.mul_assoc, Int.mul_emod_left]
  intro j
  induction j with
  | zero =>
    intro hj
    have e : nafM N b (i + 1 + 0) = 2 ^ (b - 1 - 0) * ((nafM N b i - nafD N b i) / 2 ^ b) := by
      have h3 := nafM_succ N b i hb
      have h4 : 2 * nafM N b (i + 1) = 2 * (2 ^ (b - 1) * ((nafM N b i - nafD N b i) / 2 ^ b)) := by
        rw [← Int.mul_assoc, ← hh, ← e2]; omega
      show nafM N b (i + 1) = 2 ^ (b - 1) * _
      omega
    exact ⟨key 0 hj e, e⟩
  | succ j ih =>
    intro hj
    have h5 := ih (by omega)
    have e : nafM N b (i + 1 + (j + 1)) = 2 ^ (b - 1 - (j + 1)) * ((nafM N b i - nafD N b i) / 2 ^ b) := by
      have h3 := nafM_succ N b (i + 1 + j) hb
      rw [h5.1, h5.2, show b - 1 - j = b - 1 - (j + 1) + 1 by omega, Int.pow_succ] at h3
      show nafM N b (i + 1 + j + 1) = _
      have h6 : 2 ^ (b - 1 - (j + 1)) * 2 * ((nafM N b i - nafD N b i) / 2 ^ b) = 2 * (2 ^ (b - 1 - (j + 1)) * ((nafM N b i - nafD N b i) / 2 ^ b)) := by
        rw [Int.mul_comm (2 ^ (b - 1 - (j + 1))) 2, Int.mul_assoc]
      omega
    exact ⟨key (j + 1) hj e, e⟩
/-- After such a digit, and the noughts behind it. -/
theorem naf_jump (N : Int) (b i : Nat) (hb : 2 ≤ b) (h : ¬ nafD N b i = 0) : nafM N b (i + b) = (nafM N b i - nafD N b i) / 2 ^ b := by
  have h1 := naf_gap N b i (by omega) h (b - 2) (by omega)
  have h2 := nafM_succ N b (i + 1 + (b - 2)) (by omega)
  rw [h1.1, h1.2, show b - 1 - (b - 2) = 1 by omega, show i + 1 + (b - 2) + 1 = i + b by omega, show (2 : Int) ^ 1 = 2 from rfl] at h2
  omega
/-- The digits together. -/
theorem nafM_sum (N : Int) (b : Nat) (hb : 1 ≤ b) (g : List Int) : ∀ n, g.length = n → (∀ i, i < n → rd g (i : Int) = nafD N b i) → ∀ d i, i + d = n → vl 2 (g.drop i) = nafM N b i - 2 ^ d * nafM N b n := by
  intro n hg hd d
  induction d with
  | zero =>
    intro i hi
    obtain rfl : i = n := by omega
    rw [List.drop_eq_nil_of_le (by omega)]
    simp [vl]
  | succ d ih =>
    intro i hi
    have h1 := ih (i + 1) (by omega)
    have h2 := nafM_succ N b i hb
    rw [vl_drop, h1, hd i (by omega), Int.pow_succ]
    grind
end Go.Proofs.Ytdaehflffecllaa.T
