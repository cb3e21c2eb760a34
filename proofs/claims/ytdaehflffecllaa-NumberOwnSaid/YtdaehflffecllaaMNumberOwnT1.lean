/- The law NumberOwn returns true whatever the input: T1 of its proof; no condition. (Joined by wip/shake.py.) -/
import Derived.Test.YtdaehflffecllaaMNumberOwnT0
import Derived.Laws.Bits64b
namespace Go.Proofs.Ytdaehflffecllaa.T
open Go.RowKit Go.Proofs.YtdaehflffecllaaW.PrintWords
theorem two_pos (s : Nat) : (0 : Int) < 2 ^ s := Int.pow_pos (by omega)
theorem ediv_nn {a b : Int} (h : 0 ≤ a) (hb : 0 ≤ b) : 0 ≤ a / b := Int.ediv_nonneg h hb
theorem ediv_le_self' {a b : Int} (h : 0 ≤ a) : a / b ≤ a := Int.ediv_le_self b h
theorem or_add (x y : Int) (s : Nat) (hx : 0 ≤ x) (hx1 : x < 18446744073709551616) (hy : 0 ≤ y) (hy1 : y < 2 ^ s) (hy2 : y < 18446744073709551616) (hd : x % 2 ^ s = 0) : Go.bits .or .u64 x y = x + y := by
  obtain ⟨a, rfl⟩ := Int.eq_ofNat_of_zero_le hx
  obtain ⟨b, rfl⟩ := Int.eq_ofNat_of_zero_le hy
  rw [bits_or_u64_nat a b (by omega) (by omega), ← Int.natCast_add]
  congr 1
  have h1 : a % 2 ^ s = 0 := by
    have : ((a % 2 ^ s : Nat) : Int) = 0 := by rw [Int.natCast_emod, Int.natCast_pow]; exact hd
    omega
  have h2 : b < 2 ^ s := by
    have : (b : Int) < ((2 ^ s : Nat) : Int) := by rw [Int.natCast_pow]; exact hy1
    omega
  have h3 : a = (a / 2 ^ s) <<< s := by rw [Nat.shiftLeft_eq]; have := Nat.div_add_mod a (2 ^ s); rw [h1, Nat.mul_comm] at this; omega
  conv => lhs; rw [h3]
  conv => rhs; rw [h3]
  exact (Nat.shiftLeft_add_eq_or_of_lt h2 _).symm
theorem and_one (x : Int) (hx : 0 ≤ x) (hx1 : x < 18446744073709551616) : Go.bits .and .u64 x 1 = x % 2 := by
  obtain ⟨a, rfl⟩ := Int.eq_ofNat_of_zero_le hx
  have := bits_and_u64_nat a 1 (by omega) (by omega)
  rw [Nat.and_one_is_mod] at this
  rw [show ((1 : Nat) : Int) = 1 from rfl] at this
  rw [this, Int.natCast_emod]; rfl
theorem shr_eq (x : Int) (n : Nat) (hn : n ≤ 64) : shr .u64 x (n : Int) = x / 2 ^ n := by
  unfold shr
  rw [show IntKind.u64.bits = 64 from rfl, Int.toNat_natCast, Nat.min_eq_left hn]
theorem shl_eq (x : Int) (n : Nat) (hn : n ≤ 64) : shl .u64 x (n : Int) = x * 2 ^ n % 18446744073709551616 := by
  unfold shl
  rw [show IntKind.u64.bits = 64 from rfl, Int.toNat_natCast, Nat.min_eq_left hn, IntKind.wrap_u64]
theorem tdiv_nat (i j : Nat) : Int.tdiv (i : Int) (j : Int) = ((i / j : Nat) : Int) := by rw [Int.tdiv_eq_ediv_of_nonneg (by omega), Int.natCast_ediv]
theorem tmod_nat (i j : Nat) : Int.tmod (i : Int) (j : Int) = ((i % j : Nat) : Int) := by rw [Int.tmod_eq_emod_of_nonneg (by omega), Int.natCast_emod]
theorem mod_pow_div (m : Int) (w r : Nat) (h : r < w) : (m % 2 ^ w) / 2 ^ r % 2 = m / 2 ^ r % 2 := by
  have e1 : (2 : Int) ^ w = 2 ^ r * (2 * 2 ^ (w - r - 1)) := by
    rw [← Int.pow_succ', ← Int.pow_add]
    congr 1; omega
  have e2 : m = m % 2 ^ w + 2 ^ r * (2 * (2 ^ (w - r - 1) * (m / 2 ^ w))) := by
    have := Int.emod_add_mul_ediv m (2 ^ w)
    conv at this => lhs; rw [e1]
    rw [e1]; rw [← this]
    conv => lhs; rw [this]
    grind
  conv => rhs; rw [e2]
  rw [Int.add_mul_ediv_left _ _ (by have := two_pos r; omega), Int.add_mul_emod_self_left]
/-- A bit of a digit is a bit of the number. -/
theorem digit_bit (n : Int) (w q r : Nat) (h : r < w) : n / (2 ^ w) ^ q % 2 ^ w / 2 ^ r % 2 = n / 2 ^ (w * q + r) % 2 := by
  rw [mod_pow_div _ w r h, ← Int.pow_mul, Int.ediv_ediv_of_nonneg (Int.le_of_lt (two_pos _)), ← Int.pow_add]
/-- The bit at a place; 0 below 0. -/
def bitv (n i : Int) : Int := if i < 0 then 0 else n / 2 ^ i.toNat % 2
theorem bitv_nat (n : Int) (i : Nat) : bitv n (i : Int) = n / 2 ^ i % 2 := by unfold bitv; rw [if_neg (by omega), Int.toNat_natCast]
theorem bitv_bd (n i : Int) : 0 ≤ bitv n i ∧ bitv n i ≤ 1 := by
  unfold bitv; split <;> omega
/-- -1, 0 or 1. -/
def cmpI (a b : Int) : Int := if a < b then -1 else if b < a then 1 else 0
theorem cmpI_self (a : Int) : cmpI a a = 0 := by unfold cmpI; rw [if_neg (by omega), if_neg (by omega)]
theorem cmpI_lt {a b : Int} : cmpI a b < 0 ↔ a < b := by
  unfold cmpI; split
  · simp [*]
  · split <;> simp [*]
theorem cmpI_zero {a b : Int} : cmpI a b = 0 ↔ a = b := by
  unfold cmpI; split
  · simp; omega
  · split <;> simp <;> omega
theorem cmpI_div {a b x y H p : Int} (hp : 0 < p) (ha : a / p = x + H) (hb : b / p = y + H) (h : ¬ x = y) : cmpI a b = cmpI x y := by
  unfold cmpI
  have k1 : ∀ {u v : Int}, u / p < v / p → u < v := fun {u v} h => by
    by_cases h1 : u < v
    · exact h1
    · have := Int.ediv_le_ediv hp (show v ≤ u by omega); omega
  by_cases h1 : x < y
  · rw [if_pos h1, if_pos (k1 (by omega))]
  · have h2 : y < x := by omega
    have h3 : b < a := k1 (by omega)
    rw [if_neg h1, if_pos h2, if_neg (by omega), if_pos h3]
def nbit (n : Int) : Int := if n ≤ 0 then 0 else (n.toNat.log2 : Int) + 1
theorem nbit_zero : nbit 0 = 0 := rfl
theorem nbit_nonneg (n : Int) : 0 ≤ nbit n := by unfold nbit; split <;> omega
theorem nbit_pos {n : Int} (h : 0 < n) : 0 < nbit n := by unfold nbit; rw [if_neg (by omega)]; omega
theorem nbit_unique {n : Int} {m : Nat} (h0 : 2 ^ m ≤ n) (h1 : n < 2 ^ (m + 1)) : nbit n = m + 1 := by
  have hp := two_pos m
  unfold nbit
  rw [if_neg (by omega)]
  congr 1
  obtain ⟨a, rfl⟩ := Int.eq_ofNat_of_zero_le (show 0 ≤ n by omega)
  rw [Int.toNat_natCast]
  have e0 : 2 ^ m ≤ a := by have : ((2 ^ m : Nat) : Int) ≤ a := by rw [Int.natCast_pow]; exact h0
                            omega
  have e1 : a < 2 ^ (m + 1) := by have : (a : Int) < ((2 ^ (m + 1) : Nat) : Int) := by rw [Int.natCast_pow]; exact h1
                                  omega
  have h2 : m ≤ a.log2 := (Nat.le_log2 (by have := Nat.two_pow_pos m; omega)).2 e0
  have h3 : a.log2 < m + 1 := (Nat.log2_lt (by have := Nat.two_pow_pos m; omega)).2 e1
  omega
theorem nbit_le {n : Int} {m : Nat} (h : n < 2 ^ m) : nbit n ≤ m := by
  unfold nbit
  split
  · omega
  · obtain ⟨a, rfl⟩ := Int.eq_ofNat_of_zero_le (show 0 ≤ n by omega)
    rw [Int.toNat_natCast]
    have e1 : a < 2 ^ m := by have : (a : Int) < ((2 ^ m : Nat) : Int) := by rw [Int.natCast_pow]; exact h
                              omega
    have := (Nat.log2_lt (by omega)).2 e1
    omega
theorem nbit_lt {n : Int} (h : 0 ≤ n) : n < 2 ^ (nbit n).toNat := by
  unfold nbit
  split
  · have := two_pos (0 : Int).toNat; omega
  · obtain ⟨a, rfl⟩ := Int.eq_ofNat_of_zero_le h
    rw [Int.toNat_natCast, show ((a.log2 : Int) + 1).toNat = a.log2 + 1 by omega]
    have := Nat.lt_log2_self (n := a)
    have h2 : (a : Int) < ((2 ^ (a.log2 + 1) : Nat) : Int) := by omega
    rwa [Int.natCast_pow] at h2
theorem nbit_ge {n : Int} (h : 0 < n) : 2 ^ ((nbit n).toNat - 1) ≤ n := by
  unfold nbit
  rw [if_neg (by omega)]
  obtain ⟨a, rfl⟩ := Int.eq_ofNat_of_zero_le (show 0 ≤ n by omega)
  rw [Int.toNat_natCast, show ((a.log2 : Int) + 1).toNat - 1 = a.log2 by omega]
  have := Nat.log2_self_le (n := a) (by omega)
  have h2 : ((2 ^ a.log2 : Nat) : Int) ≤ (a : Int) := by omega
  rwa [Int.natCast_pow] at h2
end Go.Proofs.Ytdaehflffecllaa.T
