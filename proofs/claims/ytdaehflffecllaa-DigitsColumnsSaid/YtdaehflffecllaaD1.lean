/- What the digits' functions come to: check, several, the reader's bits, a window of bits, Plain, Columns. -/
import Derived.Test.YtdaehflffecllaaNx12
import Derived.Test.YtdaehflffecllaaNx13
import Derived.Test.YtdaehflffecllaaT1
import Derived.Test.YtdaehflffecllaaB0
import Derived.Laws.BitsLemmas
namespace Go.Proofs.Ytdaehflffecllaa.A
open Go.RowKit Go.Proofs.YtdaehflffecllaaW.PrintWords Go.Proofs.Ytdaehflffecllaa.N Go.Proofs.Ytdaehflffecllaa.T

theorem check_ev (l : List Int) (m n : Int) (k0 : Int) : k0 = (if 64 < l.length then 11 else if n < m ∨ 8 < n then 10 else 0) → Evn (fun k => digits_check.f k l m [n]) k0 := by
  intro h
  subst h
  by_cases h1 : 64 < l.length
  · refine Evn.of fun k => ?_
    unfold digits_check.f
    rw [if_pos (by omega), if_pos h1]
  · refine Evn.congr (h := fun k => digits_check.l0 k m [n] 1 0) (fun k => by unfold digits_check.f; rw [if_neg (by omega)]; rfl) ?_
    have hr : rd [n] 0 = n := rfl
    rw [if_neg h1]
    by_cases h2 : n < m
    · rw [if_pos (.inl h2)]
      refine Evn.succ (h := fun _ => some 10) (fun k => ?_) (Evn.of fun _ => rfl)
      rw [digits_check.l0, if_pos (by omega), if_pos (by omega), if_pos (by simp), hr, if_pos h2]
    · by_cases h3 : 8 < n
      · rw [if_pos (.inr h3)]
        refine Evn.succ (h := fun _ => some 10) (fun k => ?_) (Evn.of fun _ => rfl)
        rw [digits_check.l0, if_pos (by omega), if_pos (by omega), if_pos (by simp), hr, if_neg h2, if_pos h3]
      · rw [if_neg (by omega)]
        refine Evn.succ (h := fun k => digits_check.l0 k m [n] 1 1) (fun k => ?_) (Evn.succ (h := fun _ => some 0) (fun k => ?_) (Evn.of fun _ => rfl))
        · rw [digits_check.l0, if_pos (by omega), if_pos (by omega), if_pos (by simp), hr, if_neg h2, if_neg h3, w64 ((0 : Int) + 1) (by omega) (by omega)]; rfl
        · rw [digits_check.l0, if_neg (by omega)]

/-- How many digits. -/
def cnt (n : Nat) (b : Nat) : Nat := (8 * n + b - 1) / b
theorem several_eval (l : List Int) (b : Nat) (hb : 1 ≤ b) (hb8 : b ≤ 8) (hl : l.length ≤ 1048576) : digits_several.f l (b : Int) = some ((cnt l.length b : Nat) : Int) := by
  have t := tdiv_nat (8 * l.length + b - 1) b
  have hle : (8 * l.length + b - 1) / b ≤ 8 * l.length + b - 1 := Nat.div_le_self _ _
  unfold digits_several.f cnt
  generalize (8 * l.length + b - 1) / b = q at t hle ⊢
  rw [if_neg (by omega), w64 (8 * (l.length : Int)) (by omega) (by omega), w64 (8 * (l.length : Int) + (b : Int)) (by omega) (by omega), w64 (8 * (l.length : Int) + (b : Int) - 1) (by omega) (by omega), show 8 * (l.length : Int) + (b : Int) - 1 = ((8 * l.length + b - 1 : Nat) : Int) by omega, t, w64 _ (by omega) (by omega)]

theorem and_u8 (x : Int) (h0 : 0 ≤ x) (h1 : x < 256) : Go.bits .and .u8 x 1 = x % 2 := by
  obtain ⟨a, rfl⟩ := Int.eq_ofNat_of_zero_le h0
  have := (bits_nat .u8 8 (by decide) (fun n h0 h1 => by rw [IntKind.wrap_u8]; omega) a 1 (by omega) (by omega)).1
  rw [Nat.and_one_is_mod] at this
  rw [show ((1 : Nat) : Int) = 1 from rfl] at this
  rw [this, Int.natCast_emod]; rfl
theorem or_i64 (x y : Int) (s : Nat) (hx : 0 ≤ x) (hx1 : x < 9223372036854775808) (hy : 0 ≤ y) (hy1 : y < 2 ^ s) (hy2 : y < 9223372036854775808) (hd : x % 2 ^ s = 0) : Go.bits .or .i64 y x = y + x := by
  have h := or_add x y s hx (by omega) hy hy1 (by omega) hd
  have h' := or_comm' x y hx (by omega) hy (by omega)
  rw [h] at h'
  obtain ⟨a, rfl⟩ := Int.eq_ofNat_of_zero_le hx
  obtain ⟨b, rfl⟩ := Int.eq_ofNat_of_zero_le hy
  have h1 := (bits_nat .i64 63 (by decide) (fun n h0 h1 => by rw [IntKind.wrap_i64]; omega) b a (by omega) (by omega)).2
  rw [bits_or_u64_nat b a (by omega) (by omega)] at h'
  rw [h1, ← h']; omega
theorem shl_i64 (t : Int) (n : Nat) (hn : n ≤ 64) (h0 : -9223372036854775808 ≤ t * 2 ^ n) (h1 : t * 2 ^ n ≤ 9223372036854775807) : shl .i64 t (n : Int) = t * 2 ^ n := by
  unfold shl
  rw [show IntKind.i64.bits = 64 from rfl, Int.toNat_natCast, Nat.min_eq_left hn, IntKind.wrap_i64]; omega
theorem shr_i64 (x : Int) (n : Nat) (hn : n ≤ 64) : shr .i64 x (n : Int) = x / 2 ^ n := by
  unfold shr
  rw [show IntKind.i64.bits = 64 from rfl, Int.toNat_natCast, Nat.min_eq_left hn]
theorem shr_u8 (x : Int) (n : Nat) (hn : n ≤ 8) : shr .u8 x (n : Int) = x / 2 ^ n := by
  unfold shr
  rw [show IntKind.u8.bits = 8 from rfl, Int.toNat_natCast, Nat.min_eq_left hn]

theorem bit_beyond {n : Int} {m i : Nat} (h0 : 0 ≤ n) (h : n < 2 ^ m) (hi : m ≤ i) : bitv n (i : Int) = 0 := by
  rw [bitv_nat]
  have h1 : (2 : Int) ^ m ≤ 2 ^ i := pow_le (by omega) hi
  rw [Int.ediv_eq_zero_of_lt h0 (by omega)]; rfl
theorem reader_eval (l : List Int) (h : dg 256 l) (hl : l.length ≤ 1048576) (i : Nat) (hi : i ≤ 9223372036854775807) : digits_reader1.f (i : Int) l = some (bitv (vl 256 l) (i : Int)) := by
  have t1 := tdiv_nat i 8
  have t2 := tmod_nat i 8
  rw [show ((8 : Nat) : Int) = 8 from rfl] at t1 t2
  have n0 := vl_nonneg h C0
  unfold digits_reader1.f
  rw [w64 (8 * (l.length : Int)) (by omega) (by omega)]
  by_cases hb : 8 * l.length ≤ i
  · rw [if_pos (by omega)]
    have hlt := vl_lt h C0
    rw [bit_beyond n0 (m := 8 * l.length) (by rw [Int.pow_mul]; exact hlt) hb]
  · have hr := rd_bd h C0 (i / 8)
    have hd : rd l ((i / 8 : Nat) : Int) / 2 ^ (i % 8) % 2 = bitv (vl 256 l) (i : Int) := by
      rw [rd_vl h C0, bitv_nat]
      have := digit_bit (vl 256 l) 8 (i / 8) (i % 8) (by omega)
      rw [show (2 : Int) ^ 8 = 256 from rfl, show 8 * (i / 8) + i % 8 = i by omega] at this
      exact this
    have q0 : 0 ≤ rd l ((i / 8 : Nat) : Int) / 2 ^ (i % 8) := ediv_nn hr.1 (Int.le_of_lt (two_pos _))
    have q1 : rd l ((i / 8 : Nat) : Int) / 2 ^ (i % 8) ≤ rd l ((i / 8 : Nat) : Int) := ediv_le_self' hr.1
    have hbb := bitv_bd (vl 256 l) (i : Int)
    rw [if_neg (by omega), t1, t2, w64 ((i / 8 : Nat) : Int) (by omega) (by omega), if_pos (by omega), if_pos (by omega), if_pos (by omega), shr_u8 _ _ (by omega), and_u8 _ q0 (by omega), hd, w64 _ (by omega) (by omega)]

/-- The bits from a place on, with a step between. -/
def win (N : Int) (f s : Nat) : Nat → Int
  | 0 => 0
  | m + 1 => win N f s m + 2 ^ m * bitv N ((f + m * s : Nat) : Int)
theorem win_bd (N : Int) (f s : Nat) : ∀ m, 0 ≤ win N f s m ∧ win N f s m < 2 ^ m
  | 0 => by simp [win]
  | m + 1 => by
    have h := win_bd N f s m
    have hb := bitv_bd N ((f + m * s : Nat) : Int)
    have hp := two_pos m
    have e : (2 : Int) ^ (m + 1) = 2 ^ m * 2 := Int.pow_succ ..
    unfold win
    rcases (show bitv N ((f + m * s : Nat) : Int) = 0 ∨ bitv N ((f + m * s : Nat) : Int) = 1 by omega) with h1 | h1 <;> rw [h1] <;> omega
/-- Bits without a step: what is left of the number there. -/
theorem win_one (N : Int) (f : Nat) : ∀ m, win N f 1 m = N / 2 ^ f % 2 ^ m
  | 0 => by simp [win, Int.emod_one]
  | m + 1 => by
    have h := win_one N f m
    unfold win
    rw [h, bitv_nat, show f + m * 1 = f + m by omega, Int.pow_add, ← Int.ediv_ediv_of_nonneg (Int.le_of_lt (two_pos f))]
    have e : (2 : Int) ^ (m + 1) = 2 ^ m * 2 := Int.pow_succ ..
    rw [e]
    have e1 := Int.emod_add_mul_ediv (N / 2 ^ f) (2 ^ m)
    have e2 := Int.emod_add_mul_ediv (N / 2 ^ f / 2 ^ m) 2
    have b1 := Int.emod_lt_of_pos (N / 2 ^ f) (two_pos m)
    have b0 := Int.emod_nonneg (N / 2 ^ f) (show (2 : Int) ^ m ≠ 0 by have := two_pos m; omega)
    have c1 := Int.emod_lt_of_pos (N / 2 ^ f / 2 ^ m) (show (0 : Int) < 2 by omega)
    have c0 := Int.emod_nonneg (N / 2 ^ f / 2 ^ m) (show (2 : Int) ≠ 0 by omega)
    refine (mod_of (q := N / 2 ^ f / 2 ^ m / 2) ?_ ?_ ?_).symm
    · grind
    · have : 0 ≤ 2 ^ m * (N / 2 ^ f / 2 ^ m % 2) := Int.mul_nonneg (Int.le_of_lt (two_pos m)) c0
      omega
    · have hp := two_pos m
      rcases (show N / 2 ^ f / 2 ^ m % 2 = 0 ∨ N / 2 ^ f / 2 ^ m % 2 = 1 by omega) with h1 | h1 <;> rw [h1] <;> omega
theorem window_loop (l : List Int) (h : dg 256 l) (hl : l.length ≤ 1048576) (f s n : Nat) (hn : n ≤ 62) (hfs : f ≤ 1099511627776) (hs : s ≤ 1099511627776) : ∀ (d i : Nat), i + d = n →
    Evn (fun k => digits_window.l0 k l (f : Int) (s : Int) (win (vl 256 l) f s i) (n : Int) (i : Int)) (win (vl 256 l) f s n) := by
  intro d
  induction d with
  | zero =>
    intro i hi
    obtain rfl : i = n := by omega
    exact Evn.succ (h := fun _ => some (win (vl 256 l) f s i)) (fun k => by rw [digits_window.l0, if_neg (by omega)]) (Evn.of fun _ => rfl)
  | succ d ih =>
    intro i hi
    have hm : i * s ≤ 62 * 1099511627776 := Nat.mul_le_mul (by omega) hs
    have hmi : (i : Int) * (s : Int) = ((i * s : Nat) : Int) := (Int.natCast_mul i s).symm
    have hw := win_bd (vl 256 l) f s i
    have hb := bitv_bd (vl 256 l) ((f + i * s : Nat) : Int)
    have hp := two_pos i
    have hp2 : (2 : Int) ^ i ≤ 2 ^ 61 := pow_le (by omega) (by omega)
    rw [show (2 : Int) ^ 61 = 2305843009213693952 from rfl] at hp2
    have y0 : 0 ≤ bitv (vl 256 l) ((f + i * s : Nat) : Int) * 2 ^ i := Int.mul_nonneg hb.1 (Int.le_of_lt hp)
    have y1 : bitv (vl 256 l) ((f + i * s : Nat) : Int) * 2 ^ i ≤ 2 ^ i := by
      rcases (show bitv (vl 256 l) ((f + i * s : Nat) : Int) = 0 ∨ bitv (vl 256 l) ((f + i * s : Nat) : Int) = 1 by omega) with h1 | h1 <;> rw [h1] <;> omega
    have hor := or_i64 (bitv (vl 256 l) ((f + i * s : Nat) : Int) * 2 ^ i) (win (vl 256 l) f s i) i y0 (by omega) hw.1 hw.2 (by omega) (Int.mul_emod_left _ _)
    refine Evn.succ (fun k => ?_) (ih (i + 1) (by omega))
    rw [digits_window.l0, if_pos (by omega), hmi, w64 ((i * s : Nat) : Int) (by omega) (by omega), show (f : Int) + ((i * s : Nat) : Int) = ((f + i * s : Nat) : Int) by omega, w64 ((f + i * s : Nat) : Int) (by omega) (by omega), reader_eval l h hl _ (by omega), Option.bind_some, if_pos (by omega), shl_i64 _ _ (by omega) (by omega) (by omega), hor, w64 ((i : Int) + 1) (by omega) (by omega)]
    rw [show win (vl 256 l) f s (i + 1) = win (vl 256 l) f s i + 2 ^ i * bitv (vl 256 l) ((f + i * s : Nat) : Int) from rfl, Int.mul_comm (2 ^ i)]; rfl
theorem window_ev (l : List Int) (h : dg 256 l) (hl : l.length ≤ 1048576) (f s n : Nat) (hn : n ≤ 62) (hf : f ≤ 1099511627776) (hs : s ≤ 1099511627776) : Evn (fun k => digits_window.f k l (f : Int) (s : Int) (n : Int)) (win (vl 256 l) f s n) :=
  window_loop l h hl f s n hn hf hs n 0 (by omega)
end Go.Proofs.Ytdaehflffecllaa.A
