/- The law DigitsTell returns true whatever the input: A0 of its proof; no condition. (Joined by wip/shake.py.) -/
import Derived.Test.YtdaehflffecllaaMDigitsTellN0
import Derived.Test.YtdaehflffecllaaMDigitsTellT1
import Derived.Test.YtdaehflffecllaaMDigitsTellB0
import Derived.Laws.BitsLemmas
import Derived.Test.YtdaehflffecllaaMDigitsTellN1
import Derived.Test.YtdaehflffecllaaMDigitsTellN2
import Derived.Lib.BitFns
import Derived.Lib.Mul64
import Derived.Test.YtdaehflffecllaaMDigitsTellE0
namespace Go.Proofs.Ytdaehflffecllaa.A
open Go.RowKit Go.Proofs.YtdaehflffecllaaW.PrintWords Go.Proofs.Ytdaehflffecllaa.N Go.Proofs.Ytdaehflffecllaa.T
theorem check_ev (l : List Int) (m n : Int) (k0 : Int) : k0 = (if 64 < l.length then 11 else if n < m ∨ 8 < n then 10 else 0) → Evn (fun k => digits_check.f k l m [n]) k0 := by
  intro h
  subst h
  by_cases h1 : 64 < l.length
  · refine Evn.of fun k => ?_
    unfold digits_check.f
    rw [if_pos (by omega), if_pos h1]
  · refine Evn.congr (h := fun k => digits_check.l0 k m [n] 1 0) (fun k => by unfold digits_check.f; rw [if_neg (by omega)]; rfl) ?_
    have hr : rd [n] 0 = n := rfl
    rw [if_neg h1]
    by_cases h2 : n < m
    · rw [if_pos (.inl h2)]
      refine Evn.succ (h := fun _ => some 10) (fun k => ?_) (Evn.of fun _ => rfl)
      rw [digits_check.l0, if_pos (by omega), if_pos (by omega), if_pos (by simp), hr, if_pos h2]
    · by_cases h3 : 8 < n
      · rw [if_pos (.inr h3)]
        refine Evn.succ (h := fun _ => some 10) (fun k => ?_) (Evn.of fun _ => rfl)
        rw [digits_check.l0, if_pos (by omega), if_pos (by omega), if_pos (by simp), hr, if_neg h2, if_pos h3]
      · rw [if_neg (by omega)]
        refine Evn.succ (h := fun k => digits_check.l0 k m [n] 1 1) (fun k => ?_) (Evn.succ (h := fun _ => some 0) (fun k => ?_) (Evn.of fun _ => rfl))
        · rw [digits_check.l0, if_pos (by omega), if_pos (by omega), if_pos (by simp), hr, if_neg h2, if_neg h3, w64 ((0 : Int) + 1) (by omega) (by omega)]; rfl
        · rw [digits_check.l0, if_neg (by omega)]
/-- How many digits. -/
def cnt (n : Nat) (b : Nat) : Nat := (8 * n + b - 1) / b
theorem several_eval (l : List Int) (b : Nat) (hb : 1 ≤ b) (hb8 : b ≤ 8) (hl : l.length ≤ 1048576) : digits_several.f l (b : Int) = some ((cnt l.length b : Nat) : Int) := by
  have t := tdiv_nat (8 * l.length + b - 1) b
  have hle : (8 * l.length + b - 1) / b ≤ 8 * l.length + b - 1 := Nat.div_le_self _ _
  unfold digits_several.f cnt
  generalize (8 * l.length + b - 1) / b = q at t hle ⊢
  rw [if_neg (by omega), w64 (8 * (l.length : Int)) (by omega) (by omega), w64 (8 * (l.length : Int) + (b : Int)) (by omega) (by omega), w64 (8 * (l.length : Int) + (b : Int) - 1) (by omega) (by omega), show 8 * (l.length : Int) + (b : Int) - 1 = ((8 * l.length + b - 1 : Nat) : Int) by omega, t, w64 _ (by omega) (by omega)]
theorem and_u8 (x : Int) (h0 : 0 ≤ x) (h1 : x < 256) : Go.bits .and .u8 x 1 = x % 2 := by
  obtain ⟨a, rfl⟩ := Int.eq_ofNat_of_zero_le h0
  have := (bits_nat .u8 8 (by decide) (fun n h0 h1 => by rw [IntKind.wrap_u8]; omega) a 1 (by omega) (by omega)).1
  rw [Nat.and_one_is_mod] at this
  rw [show ((1 : Nat) : Int) = 1 from rfl] at this
  rw [this, Int.natCast_emod]; rfl
theorem or_i64 (x y : Int) (s : Nat) (hx : 0 ≤ x) (hx1 : x < 9223372036854775808) (hy : 0 ≤ y) (hy1 : y < 2 ^ s) (hy2 : y < 9223372036854775808) (hd : x % 2 ^ s = 0) : Go.bits .or .i64 y x = y + x := by
  have h := or_add x y s hx (by omega) hy hy1 (by omega) hd
  have h' := or_comm' x y hx (by omega) hy (by omega)
  rw [h] at h'
  obtain ⟨a, rfl⟩ := Int.eq_ofNat_of_zero_le hx
  obtain ⟨b, rfl⟩ := Int.eq_ofNat_of_zero_le hy
  have h1 := (bits_nat .i64 63 (by decide) (fun n h0 h1 => by rw [IntKind.wrap_i64]; omega) b a (by omega) (by omega)).2
  rw [bits_or_u64_nat b a (by omega) (by omega)] at h'
  rw [h1, ← h']; omega
theorem shl_i64 (t : Int) (n : Nat) (hn : n ≤ 64) (h0 : -9223372036854775808 ≤ t * 2 ^ n) (h1 : t * 2 ^ n ≤ 9223372036854775807) : shl .i64 t (n : Int) = t * 2 ^ n := by
  unfold shl
  rw [show IntKind.i64.bits = 64 from rfl, Int.toNat_natCast, Nat.min_eq_left hn, IntKind.wrap_i64]; omega
theorem shr_i64 (x : Int) (n : Nat) (hn : n ≤ 64) : shr .i64 x (n : Int) = x / 2 ^ n := by
  unfold shr
  rw [show IntKind.i64.bits = 64 from rfl, Int.toNat_natCast, Nat.min_eq_left hn]
theorem shr_u8 (x : Int) (n : Nat) (hn : n ≤ 8) : shr .u8 x (n : Int) = x / 2 ^ n := by
  unfold shr
  rw [show IntKind.u8.bits = 8 from rfl, Int.toNat_natCast, Nat.min_eq_left hn]
theorem bit_beyond {n : Int} {m i : Nat} (h0 : 0 ≤ n) (h : n < 2 ^ m) (hi : m ≤ i) : bitv n (i : Int) = 0 := by
  rw [bitv_nat]
  have h1 : (2 : Int) ^ m ≤ 2 ^ i := pow_le (by omega) hi
  rw [Int.ediv_eq_zero_of_lt h0 (by omega)]; rfl
theorem reader_eval (l : List Int) (h : dg 256 l) (hl : l.length ≤ 1048576) (i : Nat) (hi : i ≤ 9223372036854775807) : digits_reader1.f (i : Int) l = some (bitv (vl 256 l) (i : Int)) := by
  have t1 := tdiv_nat i 8
  have t2 := tmod_nat i 8
  rw [show ((8 : Nat) : Int) = 8 from rfl] at t1 t2
  have n0 := vl_nonneg h C0
  unfold digits_reader1.f
  rw [w64 (8 * (l.length : Int)) (by omega) (by omega)]
  by_cases hb : 8 * l.length ≤ i
  · rw [if_pos (by omega)]
    have hlt := vl_lt h C0
    rw [bit_beyond n0 (m := 8 * l.length) (by rw [Int.pow_mul]; exact hlt) hb]
  · have hr := rd_bd h C0 (i / 8)
    have hd : rd l ((i / 8 : Nat) : Int) / 2 ^ (i % 8) % 2 = bitv (vl 256 l) (i : Int) := by
      rw [rd_vl h C0, bitv_nat]
      have := digit_bit (vl 256 l) 8 (i / 8) (i % 8) (by omega)
      rw [show (2 : Int) ^ 8 = 256 from rfl, show 8 * (i / 8) + i % 8 = i by omega] at this
      exact this
    have q0 : 0 ≤ rd l ((i / 8 : Nat) : Int) / 2 ^ (i % 8) := ediv_nn hr.1 (Int.le_of_lt (two_pos _))
    have q1 : rd l ((i / 8 : Nat) : Int) / 2 ^ (i % 8) ≤ rd l ((i / 8 : Nat) : Int) := ediv_le_self' hr.1
    have hbb := bitv_bd (vl 256 l) (i : Int)
    rw [if_neg (by omega), t1, t2, w64 ((i / 8 : Nat) : Int) (by omega) (by omega), if_pos (by omega), if_pos (by omega), if_pos (by omega), shr_u8 _ _ (by omega), and_u8 _ q0 (by omega), hd, w64 _ (by omega) (by omega)]
/-- The bits from a place on, with a step between. -/
def win (N : Int) (f s : Nat) : Nat → Int
  | 0 => 0
  | m + 1 => win N f s m + 2 ^ m * bitv N ((f + m * s : Nat) : Int)
theorem win_bd (N : Int) (f s : Nat) : ∀ m, 0 ≤ win N f s m ∧ win N f s m < 2 ^ m
  | 0 => by simp [win]
  | m + 1 => by
    have h := win_bd N f s m
    have hb := bitv_bd N ((f + m * s : Nat) : Int)
    have hp := two_pos m
    have e : (2 : Int) ^ (m + 1) = 2 ^ m * 2 := Int.pow_succ ..
    unfold win
    rcases (show bitv N ((f + m * s : Nat) : Int) = 0 ∨ bitv N ((f + m * s : Nat) : Int) = 1 by omega) with h1 | h1 <;> rw [h1] <;> omega
/-- Bits without a step: what is left of the number there. -/
theorem win_one (N : Int) (f : Nat) : ∀ m, win N f 1 m = N / 2 ^ f % 2 ^ m
  | 0 => by simp [win, Int.emod_one]
  | m + 1 => by
    have h := win_one N f m
    unfold win
    rw [h, bitv_nat, show f + m * 1 = f + m by omega, Int.pow_add, ← Int.ediv_ediv_of_nonneg (Int.le_of_lt (two_pos f))]
    have e : (2 : Int) ^ (m + 1) = 2 ^ m * 2 := Int.pow_succ ..
    rw [e]
    have e1 := Int.emod_add_mul_ediv (N / 2 ^ f) (2 ^ m)
    have e2 := Int.emod_add_mul_ediv (N / 2 ^ f / 2 ^ m) 2
    have b1 := Int.emod_lt_of_pos (N / 2 ^ f) (two_pos m)
    have b0 := Int.emod_nonneg (N / 2 ^ f) (show (2 : Int) ^ m ≠ 0 by have := two_pos m; omega)
    have c1 := Int.emod_lt_of_pos (N / 2 ^ f / 2 ^ m) (show (0 : Int) < 2 by omega)
    have c0 := Int.emod_nonneg (N / 2 ^ f / 2 ^ m) (show (2 : Int) ≠ 0 by omega)
    refine (mod_of (q := N / 2 ^ f / 2 ^ m / 2) ?_ ?_ ?_).symm
    · grind
    · have : 0 ≤ 2 ^ m * (N / 2 ^ f / 2 ^ m % 2) := Int.mul_nonneg (Int.le_of_lt (two_pos m)) c0
      omega
    · have hp := two_pos m
      rcases (show N / 2 ^ f / 2 ^ m % 2 = 0 ∨ N / 2 ^ f / 2 ^ m % 2 = 1 by omega) with h1 | h1 <;> rw [h1] <;> omega
theorem window_loop (l : List Int) (h : dg 256 l) (hl : l.length ≤ 1048576) (f s n : Nat) (hn : n ≤ 62) (hfs : f ≤ 1099511627776) (hs : s ≤ 1099511627776) : ∀ (d i : Nat), i + d = n →
    Evn (fun k => digits_window.l0 k l (f : Int) (s : Int) (win (vl 256 l) f s i) (n : Int) (i : Int)) (win (vl 256 l) f s n) := by
  intro d
  induction d with
  | zero =>
    intro i hi
    obtain rfl : i = n := by omega
    exact Evn.succ (h := fun _ => some (win (vl 256 l) f s i)) (fun k => by rw [digits_window.l0, if_neg (by omega)]) (Evn.of fun _ => rfl)
  | succ d ih =>
    intro i hi
    have hm : i * s ≤ 62 * 1099511627776 := Nat.mul_le_mul (by omega) hs
    have hmi : (i : Int) * (s : Int) = ((i * s : Nat) : Int) := (Int.natCast_mul i s).symm
    have hw := win_bd (vl 256 l) f s i
    have hb := bitv_bd (vl 256 l) ((f + i * s : Nat) : Int)
    have hp := two_pos i
    have hp2 : (2 : Int) ^ i ≤ 2 ^ 61 := pow_le (by omega) (by omega)
    rw [show (2 : Int) ^ 61 = 2305843009213693952 from rfl] at hp2
    have y0 : 0 ≤ bitv (vl 256 l) ((f + i * s : Nat) : Int) * 2 ^ i := Int.mul_nonneg hb.1 (Int.le_of_lt hp)
    have y1 : bitv (vl 256 l) ((f + i * s : Nat) : Int) * 2 ^ i ≤ 2 ^ i := by
      rcases (show bitv (vl 256 l) ((f + i * s : Nat) : Int) = 0 ∨ bitv (vl 256 l) ((f + i * s : Nat) : Int) = 1 by omega) with h1 | h1 <;> rw [h1] <;> omega
    have hor := or_i64 (bitv (vl 256 l) ((f + i * s : Nat) : Int) * 2 ^ i) (win (vl 256 l) f s i) i y0 (by omega) hw.1 hw.2 (by omega) (Int.mul_emod_left _ _)
    refine Evn.succ (fun k => ?_) (ih (i + 1) (by omega))
    rw [digits_window.l0, if_pos (by omega), hmi, w64 ((i * s : Nat) : Int) (by omega) (by omega), show (f : Int) + ((i * s : Nat) : Int) = ((f + i * s : Nat) : Int) by omega, w64 ((f + i * s : Nat) : Int) (by omega) (by omega), reader_eval l h hl _ (by omega), Option.bind_some, if_pos (by omega), shl_i64 _ _ (by omega) (by omega) (by omega), hor, w64 ((i : Int) + 1) (by omega) (by omega)]
    rw [show win (vl 256 l) f s (i + 1) = win (vl 256 l) f s i + 2 ^ i * bitv (vl 256 l) ((f + i * s : Nat) : Int) from rfl, Int.mul_comm (2 ^ i)]; rfl
theorem window_ev (l : List Int) (h : dg 256 l) (hl : l.length ≤ 1048576) (f s n : Nat) (hn : n ≤ 62) (hf : f ≤ 1099511627776) (hs : s ≤ 1099511627776) : Evn (fun k => digits_window.f k l (f : Int) (s : Int) (n : Int)) (win (vl 256 l) f s n) :=
  window_loop l h hl f s n hn hf hs n 0 (by omega)
end Go.Proofs.Ytdaehflffecllaa.A
namespace Go.Proofs.Ytdaehflffecllaa.A
open Go.RowKit Go.Proofs.YtdaehflffecllaaW.PrintWords Go.Proofs.Ytdaehflffecllaa.N Go.Proofs.Ytdaehflffecllaa.T
theorem bsome' {α β : Type} (a : α) (f : α → Option β) : (some a).bind f = f a := by cases h : f a <;> simp [h]
def rowL (g : Nat → Int) (n : Nat) : List Int := (List.range n).map g
theorem rowL_len (g : Nat → Int) (n : Nat) : (rowL g n).length = n := by simp [rowL]
theorem rowL_succ (g : Nat → Int) (n : Nat) : rowL g (n + 1) = rowL g n ++ [g n] := by simp [rowL, List.range_succ]
theorem rowL_rd (g : Nat → Int) (n i : Nat) (h : i < n) : rd (rowL g n) (i : Int) = g i := by
  rw [rd_get _ _ (by rw [rowL_len]; exact h)]; simp [rowL]
theorem rowL_ext (l : List Int) (g : Nat → Int) (n : Nat) (hl : l.length = n) (h : ∀ i, i < n → rd l (i : Int) = g i) : rowL g n = l := by
  apply List.ext_getElem (by rw [rowL_len, hl])
  intro i h1 h2
  have := h i (by omega)
  rw [rd_get _ _ h2] at this
  simp [rowL, this]
/-- The digits of so many bits, and the columns. -/
def plainL (N : Int) (b n : Nat) : List Int := rowL (fun i => win N (i * b) 1 b) n
def colL (N : Int) (b n : Nat) : List Int := rowL (fun i => win N i n b) n
theorem cnt_le (n b : Nat) (hb : 1 ≤ b) (hn : n ≤ 64) : cnt n b ≤ 512 := by
  unfold cnt
  have h := Nat.div_mul_le_self (8 * n + b - 1) b
  have h3 : (8 * n + 1) * b = 8 * n * b + b := Nat.succ_mul _ _
  have h4 : 8 * n * 1 ≤ 8 * n * b := Nat.mul_le_mul_left _ hb
  have h5 : (8 * n + b - 1) / b < 8 * n + 1 := (Nat.div_lt_iff_lt_mul (by omega)).2 (by omega)
  omega
theorem plain_loop (l : List Int) (h : dg 256 l) (hl : l.length ≤ 64) (b : Nat) (hb8 : b ≤ 8) (n : Nat) (hn : n ≤ 1048576) : ∀ (d i : Nat), i + d = n →
    Evn (fun k => digits_Plain.l0 k (b : Int) l (rowL (fun i => win (vl 256 l) (i * b) 1 b) i) (n : Int) (i : Int)) (plainL (vl 256 l) b n, 0) := by
  intro d
  induction d with
  | zero =>
    intro i hi
    obtain rfl : i = n := by omega
    exact Evn.succ (h := fun _ => some (plainL (vl 256 l) b i, 0)) (fun k => by rw [digits_Plain.l0, if_neg (by omega)]; rfl) (Evn.of fun _ => rfl)
  | succ d ih =>
    intro i hi
    have hm : i * b ≤ 1048576 * 8 := Nat.mul_le_mul (by omega) hb8
    have hmi : (i : Int) * (b : Int) = ((i * b : Nat) : Int) := (Int.natCast_mul i b).symm
    have e := window_ev l h (by omega) (i * b) 1 b (by omega) (by omega) (by omega)
    rw [show ((1 : Nat) : Int) = 1 from rfl] at e
    refine Evn.succ (fun k => by rw [digits_Plain.l0, if_pos (by omega), hmi, w64 ((i * b : Nat) : Int) (by omega) (by omega)]) (Evn.bind e ?_)
    refine Evn.congr (fun k => ?_) (ih (i + 1) (by omega))
    rw [if_pos (by rw [rowL_len]; omega), w64 ((i : Int) + 1) (by omega) (by omega), rowL_succ]; rfl
theorem plain_ev (l : List Int) (h : dg 256 l) (hl : l.length ≤ 64) (b : Nat) (hb : 1 ≤ b) (hb8 : b ≤ 8) : Evn (fun k => digits_Plain.f k l (b : Int)) (plainL (vl 256 l) b (cnt l.length b), 0) := by
  have e := check_ev l 1 (b : Int) 0 (by rw [if_neg (by omega), if_neg (by omega)])
  have hc := cnt_le l.length b hb hl
  refine Evn.congr (fun k => by unfold digits_Plain.f; rfl) (Evn.bind e ?_)
  refine Evn.congr (fun k => ?_) (plain_loop l h hl b hb8 (cnt l.length b) (by omega) (cnt l.length b) 0 (by omega))
  rw [if_pos rfl, several_eval l b hb hb8 (by omega)]
  unfold digits_reader.f
  rw [bsome', bsome']; rfl
theorem plain_err (l : List Int) (n e0 : Int) (he : e0 = (if 64 < l.length then 11 else if n < 1 ∨ 8 < n then 10 else 0)) (hz : ¬ e0 = 0) : Evn (fun k => digits_Plain.f k l n) ([], e0) := by
  refine Evn.congr (fun k => by unfold digits_Plain.f; rfl) (Evn.bind (check_ev l 1 n e0 he) (Evn.of fun k => ?_))
  rw [if_neg hz]
theorem cols_loop (l : List Int) (h : dg 256 l) (hl : l.length ≤ 64) (b : Nat) (hb8 : b ≤ 8) (n : Nat) (hn : n ≤ 1048576) : ∀ (d i : Nat), i + d = n →
    Evn (fun k => digits_Columns.l0 k (b : Int) l (n : Int) (rowL (fun i => win (vl 256 l) i n b) i) (n : Int) (i : Int)) (colL (vl 256 l) b n, 0) := by
  intro d
  induction d with
  | zero =>
    intro i hi
    obtain rfl : i = n := by omega
    exact Evn.succ (h := fun _ => some (colL (vl 256 l) b i, 0)) (fun k => by rw [digits_Columns.l0, if_neg (by omega)]; rfl) (Evn.of fun _ => rfl)
  | succ d ih =>
    intro i hi
    have e := window_ev l h (by omega) i n b (by omega) (by omega) (by omega)
    refine Evn.succ (fun k => by rw [digits_Columns.l0, if_pos (by omega)]) (Evn.bind e ?_)
    refine Evn.congr (fun k => ?_) (ih (i + 1) (by omega))
    rw [if_pos (by rw [rowL_len]; omega), w64 ((i : Int) + 1) (by omega) (by omega), rowL_succ]; rfl
theorem cols_ev (l : List Int) (h : dg 256 l) (hl : l.length ≤ 64) (b : Nat) (hb : 1 ≤ b) (hb8 : b ≤ 8) : Evn (fun k => digits_Columns.f k l (b : Int)) (colL (vl 256 l) b (cnt l.length b), 0) := by
  have e := check_ev l 1 (b : Int) 0 (by rw [if_neg (by omega), if_neg (by omega)])
  have hc := cnt_le l.length b hb hl
  refine Evn.congr (fun k => by unfold digits_Columns.f; rfl) (Evn.bind e ?_)
  refine Evn.congr (fun k => ?_) (cols_loop l h hl b hb8 (cnt l.length b) (by omega) (cnt l.length b) 0 (by omega))
  rw [if_pos rfl, several_eval l b hb hb8 (by omega)]
  unfold digits_reader.f
  rw [bsome', bsome']; rfl
theorem cols_err (l : List Int) (n e0 : Int) (he : e0 = (if 64 < l.length then 11 else if n < 1 ∨ 8 < n then 10 else 0)) (hz : ¬ e0 = 0) : Evn (fun k => digits_Columns.f k l n) ([], e0) := by
  refine Evn.congr (fun k => by unfold digits_Columns.f; rfl) (Evn.bind (check_ev l 1 n e0 he) (Evn.of fun k => ?_))
  rw [if_neg hz]
theorem Evn.of_mono {α : Type} {g : Nat → Option α} {r : α} (K : Nat) (hm : ∀ k, LeO (g k) (g (k + 1))) (h : g K = some r) : Evn g r := by
  refine ⟨K, fun k hk => ?_⟩
  induction k with
  | zero => rw [show K = 0 by omega] at h; exact h
  | succ k ih =>
    by_cases e : K = k + 1
    · rw [← e]; exact h
    · exact hm k r (ih (by omega))
theorem awake7_ev : Evn (fun k => chicorylaw07_awake.f k) true := Evn.of_mono 16 chicorylaw07_awake.mono (by kernel_rfl)
theorem awake7_some : Evn (fun k => (chicorylaw07_awake.f k).bind fun t => some t) true := Evn.bind awake7_ev (Evn.of fun _ => rfl)
theorem ints_loop (l m : List Int) (hl : l.length ≤ 4611686018427387904) (hlm : l.length = m.length) : ∀ (d i : Nat), i + d = l.length → l.take i = m.take i → Evn (fun k => chicorylaw07_Ints.l0 k l m i) (decide (l = m)) := by
  intro d
  induction d with
  | zero =>
    intro i hi ht
    obtain rfl : i = l.length := by omega
    have e : l = m := by rw [List.take_length] at ht; rw [ht, hlm, List.take_length]
    refine Evn.succ (h := fun _ => some true) (fun k => by rw [chicorylaw07_Ints.l0, if_neg (by omega)]) (Evn.of fun _ => ?_)
    rw [decide_eq_true e]
  | succ d ih =>
    intro i hi ht
    by_cases hx : rd l (i : Int) = rd m (i : Int)
    · refine Evn.succ (fun k => ?_) (ih (i + 1) (by omega) (by rw [take_rd l i (by omega), take_rd m i (by omega), ht, hx]))
      rw [chicorylaw07_Ints.l0, if_pos (by omega), if_pos (by omega), if_pos (by omega), if_pos hx, w64 _ (by omega) (by omega)]; rfl
    · refine Evn.succ (h := fun _ => some false) (fun k => by rw [chicorylaw07_Ints.l0, if_pos (by omega), if_pos (by omega), if_pos (by omega), if_neg hx]) (Evn.of fun _ => ?_)
      rw [decide_eq_false (fun e => hx (by rw [e]))]
theorem ints_ev (l m : List Int) (hl : l.length ≤ 4611686018427387904) : Evn (fun k => chicorylaw07_Ints.f k l m) (decide (l = m)) := by
  by_cases hlm : l.length = m.length
  · refine Evn.congr (fun k => ?_) (ints_loop l m hl hlm l.length 0 (by omega) rfl)
    unfold chicorylaw07_Ints.f
    rw [if_pos (by omega)]; rfl
  · refine Evn.of fun k => ?_
    unfold chicorylaw07_Ints.f
    rw [if_neg (by omega), decide_eq_false (fun e => hlm (by rw [e]))]
theorem ints_same (l : List Int) (h : l.length ≤ 1048576) : Evn (fun k => chicorylaw07_Ints.f k l l) true := by
  have := ints_ev l l (by omega)
  rwa [decide_eq_true rfl] at this
theorem db_of {l : List Int} (h : ∀ x ∈ l, (Lit.int .u8 x).wf = true) : dg 256 l := fun x hx => by
  have := h x hx
  simp [Lit.wf, IntKind.min, IntKind.max, IntKind.signed, IntKind.bits] at this
  omega
end Go.Proofs.Ytdaehflffecllaa.A
namespace Go.Proofs.Ytdaehflffecllaa.A
open Go.RowKit Go.Proofs.YtdaehflffecllaaW.PrintWords Go.Proofs.Ytdaehflffecllaa.N Go.Proofs.Ytdaehflffecllaa.T
theorem max_nat (a b : Nat) : mx (a : Int) (b : Int) = ((max a b : Nat) : Int) := by unfold mx; split <;> omega
theorem rcut_loop (l : List Int) (hl : l.length ≤ 4611686018427387904) : ∀ m : Nat, m ≤ l.length → cutL (l.take m) = cutL l → Evn (fun k => chicoryref03_Cut.l0 k l (m : Int)) (cutL l) := by
  intro m
  induction m with
  | zero =>
    intro _ h
    refine Evn.succ (h := fun _ => some (cutL l)) (fun k => ?_) (Evn.of fun _ => rfl)
    rw [chicoryref03_Cut.l0, if_neg (by omega), if_pos (by omega), if_pos (by omega), ← h]
    rfl
  | succ m ih =>
    intro hm h
    have e0 : wrap64 (((m + 1 : Nat) : Int) - 1) = (m : Int) := by rw [w64 _ (by omega) (by omega)]; omega
    have ht := take_rd l m (by omega)
    by_cases hx : rd l (m : Int) = 0
    · rw [hx] at ht
      refine Evn.succ (fun k => ?_) (ih (by omega) (by rw [← h, ht, cutL_zero]))
      rw [chicoryref03_Cut.l0, if_pos (by omega), e0, if_pos (by omega), if_pos (by omega), if_pos hx]
    · refine Evn.succ (h := fun _ => some (cutL l)) (fun k => ?_) (Evn.of fun _ => rfl)
      rw [chicoryref03_Cut.l0, if_pos (by omega), e0, if_pos (by omega), if_pos (by omega), if_neg hx, if_pos (by omega), if_pos (by omega), Int.toNat_natCast, ← h, ht, cutL_one _ _ hx]
theorem rcut_ev (l : List Int) (hl : l.length ≤ 4611686018427387904) : Evn (fun k => chicoryref03_Cut.f k l) (cutL l) :=
  Evn.congr (fun _ => rfl) (rcut_loop l hl l.length (Nat.le_refl _) (by rw [List.take_length]))
theorem rat_nn (l : List Int) (h : dg 256 l) (i : Nat) : chicoryref03_at.f l (i : Int) = some (rd l (i : Int)) := by
  unfold chicoryref03_at.f
  have hr := rd_bd h C0 i
  by_cases hi : (i : Int) ≥ (l.length : Int)
  · rw [if_pos hi, rd_beyond l i (by omega)]
  · rw [if_neg hi, if_pos (by omega), if_pos (by omega), w64 _ (by omega) (by omega)]
theorem rbit_loop (i : Nat) : ∀ (d j : Nat) (x : Int), j + d = i % 8 → 0 ≤ x → x < 256 → Evn (fun k => chicoryref03_Bit.l0 k (i : Int) x (j : Int)) (x / 2 ^ d % 2) := by
  intro d
  induction d with
  | zero =>
    intro j x hj hx _
    have e2 := tmod_nat i 8
    rw [show ((8 : Nat) : Int) = 8 from rfl] at e2
    refine Evn.succ (h := fun _ => some (Int.tmod x 2)) (fun k => by rw [chicoryref03_Bit.l0, e2, if_neg (by omega)]) (Evn.of fun _ => ?_)
    rw [Int.tmod_eq_emod_of_nonneg hx]; simp
  | succ d ih =>
    intro j x hj hx hx1
    have e2 := tmod_nat i 8
    rw [show ((8 : Nat) : Int) = 8 from rfl] at e2
    have := ih (j + 1) (x / 2) (by omega) (by omega) (by omega)
    rw [Int.ediv_ediv_of_nonneg (by omega), show (2 : Int) * 2 ^ d = 2 ^ (d + 1) by rw [Int.pow_succ, Int.mul_comm]] at this
    refine Evn.succ (fun k => ?_) this
    rw [chicoryref03_Bit.l0, e2, if_pos (by omega), Int.tdiv_eq_ediv_of_nonneg hx, w64 _ (by omega) (by omega), w64 _ (by omega) (by omega)]
    rfl
theorem rbit_ev (l : List Int) (h : dg 256 l) (i : Int) (hi : i ≤ 9223372036854775807) : Evn (fun k => chicoryref03_Bit.f k l i) (bitv (vl 256 l) i) := by
  by_cases h0 : i < 0
  · refine Evn.of fun k => ?_
    unfold chicoryref03_Bit.f bitv; rw [if_pos h0, if_pos h0]
  · obtain ⟨j, rfl⟩ := Int.eq_ofNat_of_zero_le (show 0 ≤ i by omega)
    have e1 := tdiv_nat j 8
    rw [show ((8 : Nat) : Int) = 8 from rfl] at e1
    have hb := rd_bd h C0 (j / 8)
    have e := rbit_loop j (j % 8) 0 (rd l ((j / 8 : Nat) : Int)) (by omega) hb.1 hb.2
    rw [rd_vl h C0] at e
    have e3 := digit_bit (vl 256 l) 8 (j / 8) (j % 8) (by omega)
    rw [show 8 * (j / 8) + j % 8 = j by omega, show (2 : Int) ^ 8 = 256 from rfl] at e3
    rw [e3, ← bitv_nat] at e
    refine Evn.congr (fun k => ?_) e
    unfold chicoryref03_Bit.f
    rw [if_neg h0, e1, w64 _ (by omega) (by omega), rat_nn l h]
    simp only [Option.bind_some]
    rw [rd_vl h C0]; rfl
theorem bit_top {n : Int} {m : Nat} (h0 : 0 ≤ n) (h1 : n < 2 ^ (m + 1)) : (bitv n (m : Int) = 0 → n < 2 ^ m) ∧ (¬ bitv n (m : Int) = 0 → 2 ^ m ≤ n) := by
  rw [bitv_nat]
  have hp := two_pos m
  have h2 := Int.emod_add_mul_ediv n (2 ^ m)
  have h3 := Int.emod_lt_of_pos n hp
  have h4 := Int.emod_nonneg n (show (2 : Int) ^ m ≠ 0 by omega)
  have h5 : n / 2 ^ m < 2 := Int.ediv_lt_of_lt_mul hp (by rw [Int.pow_succ] at h1; omega)
  have h6 := ediv_nn (b := 2 ^ m) h0 (Int.le_of_lt hp)
  generalize n / 2 ^ m = q at *
  constructor
  · intro h
    have : q = 0 := by omega
    subst this; omega
  · intro h
    have : q = 1 := by omega
    subst this; omega
theorem rlen_loop (l : List Int) (h : dg 256 l) : ∀ m : Nat, m ≤ 4611686018427387904 → vl 256 l < 2 ^ m → Evn (fun k => chicoryref03_Len.l0 k l (m : Int)) (nbit (vl 256 l)) := by
  intro m
  have hn := vl_nonneg h C0
  induction m with
  | zero =>
    intro _ h1
    have hz : vl 256 l = 0 := by simp at h1; omega
    rw [hz]
    exact Evn.succ (h := fun _ => some 0) (fun k => by rw [chicoryref03_Len.l0, if_neg (by omega)]; rfl) (Evn.of fun _ => rfl)
  | succ m ih =>
    intro hm h1
    have e0 : wrap64 (((m + 1 : Nat) : Int) - 1) = (m : Int) := by rw [w64 _ (by omega) (by omega)]; omega
    obtain ⟨t0, t1⟩ := bit_top hn h1
    refine Evn.succ (h := fun k => (chicoryref03_Bit.f k l (m : Int)).bind fun t255 => (if t255 = 0 then (chicoryref03_Len.l0 k l (m : Int)) else (some ((m + 1 : Nat) : Int)))) (fun k => by rw [chicoryref03_Len.l0, if_pos (by omega), e0]) ?_
    refine Evn.bind (rbit_ev l h (m : Int) (by omega)) ?_
    by_cases hb : bitv (vl 256 l) (m : Int) = 0
    · exact Evn.congr (fun k => by rw [if_pos hb]) (ih (by omega) (t0 hb))
    · refine Evn.of fun k => ?_
      rw [if_neg hb, nbit_unique (t1 hb) h1]; rfl
theorem rlen_ev (l : List Int) (h : dg 256 l) (hl : l.length ≤ 1099511627776) : Evn (fun k => chicoryref03_Len.f k l) (nbit (vl 256 l)) := by
  refine Evn.congr (fun k => ?_) (rlen_loop l h (8 * l.length) (by omega) (by rw [Int.pow_mul]; exact vl_lt h C0))
  unfold chicoryref03_Len.f
  rw [w64 _ (by omega) (by omega)]; rfl
end Go.Proofs.Ytdaehflffecllaa.A
namespace Go.Proofs.Ytdaehflffecllaa.A
open Go.RowKit Go.Proofs.YtdaehflffecllaaW.PrintWords Go.Proofs.Ytdaehflffecllaa.N Go.Proofs.Ytdaehflffecllaa.T
theorem win_head (N : Int) (f s : Nat) : ∀ m, win N f s (m + 1) = bitv N (f : Int) + 2 * win N (f + s) s m
  | 0 => by simp [win]
  | m + 1 => by
    have h := win_head N f s m
    have e1 : win N f s (m + 1 + 1) = win N f s (m + 1) + 2 ^ (m + 1) * bitv N ((f + (m + 1) * s : Nat) : Int) := rfl
    have e2 : win N (f + s) s (m + 1) = win N (f + s) s m + 2 ^ m * bitv N ((f + s + m * s : Nat) : Int) := rfl
    have e3 : f + (m + 1) * s = f + s + m * s := by rw [Nat.succ_mul]; omega
    rw [e1, e2, h, e3, Int.pow_succ]
    generalize bitv N ((f + s + m * s : Nat) : Int) = y
    grind
theorem many_eval (l : List Int) (b : Nat) (hb : 1 ≤ b) (hb8 : b ≤ 8) (hl : l.length ≤ 1048576) : chicoryref07_Many.f l (b : Int) = some ((cnt l.length b : Nat) : Int) := several_eval l b hb hb8 hl
theorem win_le (N : Int) (f s m : Nat) (hm : m ≤ 8) : 0 ≤ win N f s m ∧ win N f s m ≤ 255 := by
  have h := win_bd N f s m
  have hp : (2 : Int) ^ m ≤ 2 ^ 8 := pow_le (by omega) hm
  rw [show (2 : Int) ^ 8 = 256 from rfl] at hp
  omega
theorem rplain_inner (l : List Int) (h : dg 256 l) (hl : l.length ≤ 64) (b i : Nat) (hb8 : b ≤ 8) (hi : i ≤ 1048576) (out : List Int) (hout : out.length = i) (r : List Int)
    (hr : Evn (fun k => chicoryref07_Plain.l0 k l (b : Int) (out ++ [win (vl 256 l) (i * b) 1 b]) ((i + 1 : Nat) : Int)) r) :
    ∀ (j m : Nat), j + m = b → Evn (fun k => chicoryref07_Plain.l1 k l (b : Int) out (i : Int) (win (vl 256 l) (i * b + j) 1 m) ((j : Int) - 1)) r := by
  have hm : i * b ≤ 1048576 * 8 := Nat.mul_le_mul hi hb8
  have hmi : (i : Int) * (b : Int) = ((i * b : Nat) : Int) := (Int.natCast_mul i b).symm
  intro j
  induction j with
  | zero =>
    intro m hm0
    obtain rfl : m = b := by omega
    refine Evn.succ (fun k => ?_) hr
    rw [chicoryref07_Plain.l1, if_neg (by omega), if_pos (by omega), w64 ((i : Int) + 1) (by omega) (by omega)]; rfl
  | succ j ih =>
    intro m hm0
    have hw := win_le (vl 256 l) (i * b + (j + 1)) 1 m (by omega)
    have hh := win_head (vl 256 l) (i * b + j) 1 m
    have hb := bitv_bd (vl 256 l) ((i * b + j : Nat) : Int)
    have e := rbit_ev l h ((i * b + j : Nat) : Int) (by omega)
    refine Evn.succ (fun k => by rw [chicoryref07_Plain.l1, if_pos (by omega), hmi, w64 ((i * b : Nat) : Int) (by omega) (by omega), show ((i * b : Nat) : Int) + (((j + 1 : Nat) : Int) - 1) = ((i * b + j : Nat) : Int) by omega, w64 ((i * b + j : Nat) : Int) (by omega) (by omega)]) (Evn.bind e ?_)
    refine Evn.congr (fun k => ?_) (ih (m + 1) (by omega))
    rw [w64 (2 * win (vl 256 l) (i * b + (j + 1)) 1 m) (by omega) (by omega), w64 (2 * win (vl 256 l) (i * b + (j + 1)) 1 m + bitv (vl 256 l) ((i * b + j : Nat) : Int)) (by omega) (by omega), w64 (((j + 1 : Nat) : Int) - 1 - 1) (by omega) (by omega), show ((j + 1 : Nat) : Int) - 1 - 1 = (j : Int) - 1 by omega, hh, show i * b + (j + 1) = i * b + j + 1 by omega, Int.add_comm (bitv (vl 256 l) ((i * b + j : Nat) : Int))]
theorem rplain_outer (l : List Int) (h : dg 256 l) (hl : l.length ≤ 64) (b : Nat) (hb : 1 ≤ b) (hb8 : b ≤ 8) : ∀ (d i : Nat), i + d = cnt l.length b →
    Evn (fun k => chicoryref07_Plain.l0 k l (b : Int) (rowL (fun i => win (vl 256 l) (i * b) 1 b) i) (i : Int)) (plainL (vl 256 l) b (cnt l.length b)) := by
  have hc := cnt_le l.length b hb hl
  have hM := many_eval l b hb hb8 (by omega)
  intro d
  induction d with
  | zero =>
    intro i hi
    obtain rfl : i = cnt l.length b := by omega
    exact Evn.succ (h := fun _ => some (plainL (vl 256 l) b (cnt l.length b))) (fun k => by rw [chicoryref07_Plain.l0, hM, bsome', if_neg (by omega)]; rfl) (Evn.of fun _ => rfl)
  | succ d ih =>
    intro i hi
    have hr := ih (i + 1) (by omega)
    rw [rowL_succ] at hr
    have e := rplain_inner l h hl b i hb8 (by omega) (rowL (fun i => win (vl 256 l) (i * b) 1 b) i) (rowL_len _ _) _ hr b 0 (by omega)
    refine Evn.succ (fun k => ?_) e
    rw [chicoryref07_Plain.l0, hM, bsome', if_pos (by omega), w64 ((b : Int) - 1) (by omega) (by omega)]; rfl
theorem rplain_ev (l : List Int) (h : dg 256 l) (hl : l.length ≤ 64) (b : Nat) (hb : 1 ≤ b) (hb8 : b ≤ 8) : Evn (fun k => chicoryref07_Plain.f k l (b : Int)) (plainL (vl 256 l) b (cnt l.length b)) :=
  Evn.congr (fun _ => rfl) (rplain_outer l h hl b hb hb8 (cnt l.length b) 0 (by omega))
theorem rcols_inner (l : List Int) (h : dg 256 l) (b n i : Nat) (hb8 : b ≤ 8) (hn : n ≤ 512) (hi : i ≤ 512) (out : List Int) (hout : out.length = i) (r : List Int)
    (hr : Evn (fun k => chicoryref07_Columns.l0 k l (b : Int) (n : Int) (out ++ [win (vl 256 l) i n b]) ((i + 1 : Nat) : Int)) r) :
    ∀ (j m : Nat), j + m = b → Evn (fun k => chicoryref07_Columns.l1 k l (b : Int) (n : Int) out (i : Int) (win (vl 256 l) (i + j * n) n m) ((j : Int) - 1)) r := by
  intro j
  induction j with
  | zero =>
    intro m hm0
    obtain rfl : m = b := by omega
    refine Evn.succ (fun k => ?_) hr
    rw [chicoryref07_Columns.l1, if_neg (by omega), if_pos (by omega), w64 ((i : Int) + 1) (by omega) (by omega), show i + 0 * n = i by omega]; rfl
  | succ j ih =>
    intro m hm0
    have hm : j * n ≤ 8 * 512 := Nat.mul_le_mul (by omega) hn
    have hmi : (j : Int) * (n : Int) = ((j * n : Nat) : Int) := (Int.natCast_mul j n).symm
    have hs : i + (j + 1) * n = i + j * n + n := by rw [Nat.succ_mul]; omega
    have hw := win_le (vl 256 l) (i + (j + 1) * n) n m (by omega)
    have hh := win_head (vl 256 l) (i + j * n) n m
    have hb := bitv_bd (vl 256 l) ((i + j * n : Nat) : Int)
    have e := rbit_ev l h ((i + j * n : Nat) : Int) (by omega)
    refine Evn.succ (fun k => by rw [chicoryref07_Columns.l1, if_pos (by omega), show ((j + 1 : Nat) : Int) - 1 = (j : Int) by omega, hmi, w64 ((j * n : Nat) : Int) (by omega) (by omega), show ((j * n : Nat) : Int) + (i : Int) = ((i + j * n : Nat) : Int) by omega, w64 ((i + j * n : Nat) : Int) (by omega) (by omega)]) (Evn.bind e ?_)
    refine Evn.congr (fun k => ?_) (ih (m + 1) (by omega))
    rw [w64 (2 * win (vl 256 l) (i + (j + 1) * n) n m) (by omega) (by omega), w64 (2 * win (vl 256 l) (i + (j + 1) * n) n m + bitv (vl 256 l) ((i + j * n : Nat) : Int)) (by omega) (by omega), w64 ((j : Int) - 1) (by omega) (by omega), hh, hs, Int.add_comm (bitv (vl 256 l) ((i + j * n : Nat) : Int))]
theorem rcols_outer (l : List Int) (h : dg 256 l) (b n : Nat) (hb : 1 ≤ b) (hb8 : b ≤ 8) (hn : n ≤ 512) : ∀ (d i : Nat), i + d = n →
    Evn (fun k => chicoryref07_Columns.l0 k l (b : Int) (n : Int) (rowL (fun i => win (vl 256 l) i n b) i) (i : Int)) (colL (vl 256 l) b n) := by
  intro d
  induction d with
  | zero =>
    intro i hi
    obtain rfl : i = n := by omega
    exact Evn.succ (h := fun _ => some (colL (vl 256 l) b i)) (fun k => by rw [chicoryref07_Columns.l0, if_neg (by omega)]; rfl) (Evn.of fun _ => rfl)
  | succ d ih =>
    intro i hi
    have hr := ih (i + 1) (by omega)
    rw [rowL_succ] at hr
    have e := rcols_inner l h b n i hb8 hn (by omega) (rowL (fun i => win (vl 256 l) i n b) i) (rowL_len _ _) _ hr b 0 (by omega)
    refine Evn.succ (fun k => ?_) e
    rw [chicoryref07_Columns.l0, if_pos (by omega), w64 ((b : Int) - 1) (by omega) (by omega)]; rfl
theorem rcols_ev (l : List Int) (h : dg 256 l) (hl : l.length ≤ 64) (b : Nat) (hb : 1 ≤ b) (hb8 : b ≤ 8) : Evn (fun k => chicoryref07_Columns.f k l (b : Int)) (colL (vl 256 l) b (cnt l.length b)) := by
  refine Evn.congr (fun k => ?_) (rcols_outer l h b (cnt l.length b) hb hb8 (cnt_le l.length b hb hl) (cnt l.length b) 0 (by omega))
  unfold chicoryref07_Columns.f
  rw [many_eval l b hb hb8 (by omega), bsome']; rfl
theorem power_loop (n : Nat) (hn : n ≤ 62) : ∀ (d i : Nat), i + d = n → Evn (fun k => chicoryref07_power.l0 k (n : Int) (2 ^ i) (i : Int)) (2 ^ n) := by
  intro d
  induction d with
  | zero =>
    intro i hi
    obtain rfl : i = n := by omega
    exact Evn.succ (h := fun _ => some (2 ^ i)) (fun k => by rw [chicoryref07_power.l0, if_neg (by omega)]) (Evn.of fun _ => rfl)
  | succ d ih =>
    intro i hi
    have hp := two_pos i
    have hp2 : (2 : Int) ^ i ≤ 2 ^ 61 := pow_le (by omega) (by omega)
    rw [show (2 : Int) ^ 61 = 2305843009213693952 from rfl] at hp2
    refine Evn.succ (fun k => ?_) (ih (i + 1) (by omega))
    rw [chicoryref07_power.l0, if_pos (by omega), w64 (2 * 2 ^ i) (by omega) (by omega), w64 ((i : Int) + 1) (by omega) (by omega), Int.pow_succ, Int.mul_comm]; rfl
theorem power_ev (n : Nat) (hn : n ≤ 62) : Evn (fun k => chicoryref07_power.f k (n : Int)) (2 ^ n) := power_loop n hn n 0 (by omega)
end Go.Proofs.Ytdaehflffecllaa.A
namespace Go.Proofs.Ytdaehflffecllaa.A
open Go.RowKit Go.Proofs.YtdaehflffecllaaW.PrintWords Go.Proofs.Ytdaehflffecllaa.N Go.Proofs.Ytdaehflffecllaa.T
/-- What is carried over after so many digits; the digits; the list. -/
def ov (N : Int) (b : Nat) : Nat → Int
  | 0 => 0
  | i + 1 => if 2 ^ (b - 1) ≤ win N (i * b) 1 b + ov N b i then 1 else 0
def sdig (N : Int) (b i : Nat) : Int := win N (i * b) 1 b + ov N b i - 2 ^ b * ov N b (i + 1)
def signedL (N : Int) (b n : Nat) : List Int := rowL (sdig N b) n ++ [ov N b n]
theorem ov_bd (N : Int) (b : Nat) : ∀ i, ov N b i = 0 ∨ ov N b i = 1
  | 0 => .inl rfl
  | i + 1 => by unfold ov; split <;> omega
theorem half_pow (b : Nat) (hb : 1 ≤ b) : (2 : Int) ^ b = 2 * 2 ^ (b - 1) := by
  rw [show b = b - 1 + 1 by omega, Int.pow_succ, show b - 1 + 1 - 1 = b - 1 by omega, Int.mul_comm]
theorem pow8 (b : Nat) (hb : b ≤ 8) : (2 : Int) ^ b ≤ 256 := by
  have hp : (2 : Int) ^ b ≤ 2 ^ 8 := pow_le (by omega) hb
  exact hp
theorem sdig_bd (N : Int) (b i : Nat) (hb : 1 ≤ b) : -(2 ^ (b - 1)) ≤ sdig N b i ∧ sdig N b i < 2 ^ (b - 1) := by
  have h := win_bd N (i * b) 1 b
  have ho := ov_bd N b i
  have hh := half_pow b hb
  have hp := two_pos (b - 1)
  have e : ov N b (i + 1) = if 2 ^ (b - 1) ≤ win N (i * b) 1 b + ov N b i then 1 else 0 := rfl
  unfold sdig
  rw [e]
  split <;> omega
/-- The carry, as the code reckons it. -/
theorem over_step (v p : Int) (hp : 1 ≤ p) (h0 : 0 ≤ v) (h1 : v ≤ 2 * p) : (v / p + 1) / 2 = if p ≤ v then 1 else 0 := by
  by_cases h : p ≤ v
  · rw [if_pos h]
    by_cases h2 : v < 2 * p
    · have : v / p = 1 := div_of (r := v - p) (by omega) (by omega) (by omega)
      rw [this]; rfl
    · have : v / p = 2 := div_of (r := 0) (by omega) (by omega) (by omega)
      rw [this]; rfl
  · rw [if_neg h, Int.ediv_eq_zero_of_lt h0 (by omega)]; rfl
theorem signed_loop (N : Int) (b n : Nat) (hb : 2 ≤ b) (hb8 : b ≤ 8) (hn : n ≤ 512) : ∀ (d i : Nat) (x : List Int), i + d = n → x.length = n → (∀ j, j < i → rd x (j : Int) = sdig N b j) → (∀ j, i ≤ j → j < n → rd x (j : Int) = win N (j * b) 1 b) →
    Evn (fun k => digits_Signed.l0 k (b : Int) x (ov N b i) (n : Int) (i : Int)) (signedL N b n, 0) := by
  intro d
  induction d with
  | zero =>
    intro i x hi hx h1 _
    obtain rfl : i = n := by omega
    refine Evn.succ (h := fun _ => some (signedL N b i, 0)) (fun k => ?_) (Evn.of fun _ => rfl)
    rw [digits_Signed.l0, if_neg (by omega), if_pos (by omega)]
    unfold signedL
    rw [rowL_ext x (sdig N b) i hx h1]
  | succ d ih =>
    intro i x hi hx h1 h2
    have hr := h2 i (Nat.le_refl i) (by omega)
    have hw := win_bd N (i * b) 1 b
    have ho := ov_bd N b i
    have ho1 := ov_bd N b (i + 1)
    have hh := half_pow b (by omega)
    have hp := two_pos (b - 1)
    have h8 := pow8 b hb8
    have hd := sdig_bd N b i (by omega)
    have hov : ((win N (i * b) 1 b + ov N b i) / 2 ^ (b - 1) + 1) / 2 = ov N b (i + 1) := over_step _ _ (by omega) (by omega) (by omega)
    have q0 : 0 ≤ (win N (i * b) 1 b + ov N b i) / 2 ^ (b - 1) := ediv_nn (by omega) (by omega)
    have q1 : (win N (i * b) 1 b + ov N b i) / 2 ^ (b - 1) ≤ win N (i * b) 1 b + ov N b i := ediv_le_self' (by omega)
    have hrd : rd (x.set i (win N (i * b) 1 b + ov N b i)) (i : Int) = win N (i * b) 1 b + ov N b i := by rw [rd_set _ _ _ _ (by omega), if_pos rfl]
    have hmul : ov N b (i + 1) * 2 ^ b = 2 ^ b * ov N b (i + 1) := Int.mul_comm _ _
    have m0 : 0 ≤ ov N b (i + 1) * 2 ^ b ∧ ov N b (i + 1) * 2 ^ b ≤ 256 := by rcases ho1 with h | h <;> rw [h] <;> omega
    have t1 : Int.tdiv ((win N (i * b) 1 b + ov N b i) / 2 ^ (b - 1) + 1) 2 = ov N b (i + 1) := by rw [Int.tdiv_eq_ediv_of_nonneg (by omega), hov]
    refine Evn.succ (fun k => ?_) (ih (i + 1) ((x.set i (win N (i * b) 1 b + ov N b i)).set i (sdig N b i)) (by omega) (by simp [hx]) (fun j hj => ?_) (fun j hj hj2 => ?_))
    · rw [digits_Signed.l0, if_pos (by omega), if_pos (by omega), if_pos (by omega), bsome', hr, w64 (win N (i * b) 1 b + ov N b i) (by omega) (by omega), Int.toNat_natCast, hrd, w64 ((b : Int) - 1) (by omega) (by omega), if_pos (by omega), if_pos (by omega), show (b : Int) - 1 = ((b - 1 : Nat) : Int) by omega, shr_i64 _ _ (by omega), w64 ((win N (i * b) 1 b + ov N b i) / 2 ^ (b - 1) + 1) (by omega) (by omega), t1, w64 (ov N b (i + 1)) (by omega) (by omega), shl_i64 _ _ (by omega) (by omega) (by omega), hmul]
      rw [show win N (i * b) 1 b + ov N b i - 2 ^ b * ov N b (i + 1) = sdig N b i from rfl, w64 (sdig N b i) (by omega) (by omega), w64 ((i : Int) + 1) (by omega) (by omega)]
      rfl
    · rw [rd_set _ _ _ _ (by simp; omega)]
      by_cases he : i = j
      · subst he; rw [if_pos rfl]
      · rw [if_neg he, rd_set _ _ _ _ (by omega), if_neg he, h1 j (by omega)]
    · rw [rd_set _ _ _ _ (by simp; omega), if_neg (by omega), rd_set _ _ _ _ (by omega), if_neg (by omega), h2 j (by omega) hj2]
theorem signed_ev (l : List Int) (h : dg 256 l) (hl : l.length ≤ 64) (b : Nat) (hb : 2 ≤ b) (hb8 : b ≤ 8) : Evn (fun k => digits_Signed.f k l (b : Int)) (signedL (vl 256 l) b (cnt l.length b), 0) := by
  have hc := cnt_le l.length b (by omega) hl
  have hlen : (plainL (vl 256 l) b (cnt l.length b)).length = cnt l.length b := rowL_len _ _
  have e := signed_loop (vl 256 l) b (cnt l.length b) hb hb8 hc (cnt l.length b) 0 (plainL (vl 256 l) b (cnt l.length b)) (by omega) hlen (fun j hj => by omega) (fun j _ hj => rowL_rd _ _ _ hj)
  refine Evn.congr (fun k => by unfold digits_Signed.f; rfl) (Evn.bind (check_ev l 2 (b : Int) 0 (by rw [if_neg (by omega), if_neg (by omega)])) ?_)
  refine Evn.congr (fun k => by rw [if_pos rfl]) (Evn.bind (plain_ev l h hl b (by omega) hb8) ?_)
  refine Evn.congr (fun k => ?_) e
  rw [if_pos rfl]
  show digits_Signed.l0 k (b : Int) (plainL (vl 256 l) b (cnt l.length b)) 0 ((plainL (vl 256 l) b (cnt l.length b)).length : Int) 0 = _
  rw [hlen]; rfl
theorem signed_err (l : List Int) (n e0 : Int) (he : e0 = (if 64 < l.length then 11 else if n < 2 ∨ 8 < n then 10 else 0)) (hz : ¬ e0 = 0) : Evn (fun k => digits_Signed.f k l n) ([], e0) := by
  refine Evn.congr (fun k => by unfold digits_Signed.f; rfl) (Evn.bind (check_ev l 2 n e0 he) (Evn.of fun k => ?_))
  rw [if_neg hz]
theorem rsigned_loop (N : Int) (b n : Nat) (hb : 2 ≤ b) (hb8 : b ≤ 8) (hn : n ≤ 512) : ∀ (d i : Nat), i + d = n →
    Evn (fun k => chicoryref07_Signed.l0 k (b : Int) (plainL N b n) (rowL (sdig N b) i) (ov N b i) (i : Int)) (signedL N b n) := by
  have hlen : (plainL N b n).length = n := rowL_len _ _
  intro d
  induction d with
  | zero =>
    intro i hi
    obtain rfl : i = n := by omega
    refine Evn.succ (h := fun _ => some (signedL N b i)) (fun k => ?_) (Evn.of fun _ => rfl)
    rw [chicoryref07_Signed.l0, if_neg (by omega), if_pos (by rw [rowL_len]; omega)]; rfl
  | succ d ih =>
    intro i hi
    have hr : rd (plainL N b n) (i : Int) = win N (i * b) 1 b := rowL_rd _ _ _ (by omega)
    have hw := win_bd N (i * b) 1 b
    have ho := ov_bd N b i
    have hh := half_pow b (by omega)
    have hp := two_pos (b - 1)
    have h8 := pow8 b hb8
    have ho1 : ov N b (i + 1) = if 2 ^ (b - 1) ≤ win N (i * b) 1 b + ov N b i then 1 else 0 := rfl
    have hnext := ih (i + 1) (by omega)
    rw [rowL_succ] at hnext
    have hsd : sdig N b i = win N (i * b) 1 b + ov N b i - 2 ^ b * ov N b (i + 1) := rfl
    refine Evn.succ (fun k => by rw [chicoryref07_Signed.l0, if_pos (by omega), if_pos (by omega), hr, w64 (win N (i * b) 1 b + ov N b i) (by omega) (by omega), w64 ((b : Int) - 1) (by omega) (by omega), show (b : Int) - 1 = ((b - 1 : Nat) : Int) by omega]) (Evn.bind (power_ev (b - 1) (by omega)) ?_)
    by_cases hc : 2 ^ (b - 1) ≤ win N (i * b) 1 b + ov N b i
    · rw [if_pos hc] at ho1
      rw [ho1] at hsd hnext
      refine Evn.congr (fun k => by rw [if_pos (by omega)]) (Evn.bind (power_ev b (by omega)) ?_)
      refine Evn.congr (fun k => ?_) hnext
      rw [if_pos (by rw [rowL_len]; omega), w64 (win N (i * b) 1 b + ov N b i - 2 ^ b) (by omega) (by omega), show win N (i * b) 1 b + ov N b i - 2 ^ b = sdig N b i by omega, w64 ((i : Int) + 1) (by omega) (by omega)]; rfl
    · rw [if_neg hc] at ho1
      rw [ho1] at hsd hnext
      refine Evn.congr (fun k => ?_) hnext
      rw [if_neg (by omega), if_pos (by rw [rowL_len]; omega), show win N (i * b) 1 b + ov N b i = sdig N b i by omega, w64 ((i : Int) + 1) (by omega) (by omega)]; rfl
theorem rsigned_ev (l : List Int) (h : dg 256 l) (hl : l.length ≤ 64) (b : Nat) (hb : 2 ≤ b) (hb8 : b ≤ 8) : Evn (fun k => chicoryref07_Signed.f k l (b : Int)) (signedL (vl 256 l) b (cnt l.length b)) := by
  refine Evn.congr (fun k => by unfold chicoryref07_Signed.f; rfl) (Evn.bind (rplain_ev l h hl b (by omega) hb8) ?_)
  exact rsigned_loop (vl 256 l) b (cnt l.length b) hb hb8 (cnt_le l.length b (by omega) hl) (cnt l.length b) 0 (by omega)
end Go.Proofs.Ytdaehflffecllaa.A
namespace Go.Proofs.Ytdaehflffecllaa.A
open Go.RowKit Go.Proofs.YtdaehflffecllaaW.PrintWords Go.Proofs.Ytdaehflffecllaa.N Go.Proofs.Ytdaehflffecllaa.T
theorem radd_step (a b : List Int) (ha : dg 256 a) (hb : dg 256 b) (i : Nat) (hi : i ≤ 1099511627776) (out : List Int) (hol : out.length = i) (c : Int) (hc : 0 ≤ c) (hc1 : c ≤ 1) (r : List Int)
    (H : Evn (fun k => chicoryref03_Add.l0 k a b (out ++ [(c + rd a (i : Int) + rd b (i : Int)) % 256]) ((c + rd a (i : Int) + rd b (i : Int)) / 256) ((i + 1 : Nat) : Int)) r) :
    Evn (fun k => chicoryref03_Add.j1 k a b out c (i : Int) true) r := by
  have ra := rd_bd ha C0 i
  have rb := rd_bd hb C0 i
  refine Evn.succ (fun k => ?_) H
  rw [chicoryref03_Add.j1, if_pos rfl, rat_nn a ha, rat_nn b hb]
  simp only [Option.bind_some]
  rw [if_pos (by omega), w64 (c + rd a (i : Int)) (by omega) (by omega), w64 (c + rd a (i : Int) + rd b (i : Int)) (by omega) (by omega), Int.tmod_eq_emod_of_nonneg (by omega), Int.tdiv_eq_ediv_of_nonneg (by omega), w64 _ (by omega) (by omega), w64 _ (by omega) (by omega)]
  rw [show (c + rd a (i : Int) + rd b (i : Int)) % 256 % 256 = (c + rd a (i : Int) + rd b (i : Int)) % 256 by omega]
  rfl
theorem radd_alg (p s q c x y V1 V2 V3 : Int) (h : V1 + p * c = V2 + V3) (e : s + 256 * q = c + x + y) : V1 + p * s + p * 256 * q = V2 + p * x + (V3 + p * y) := by grind
theorem radd_fin (a b out : List Int) (i : Nat) (hi : ¬ ((i : Int) < ((max a.length b.length : Nat) : Int))) (hl : out.length ≤ 1099511627776) : Evn (fun k => chicoryref03_Add.l0 k a b out 0 (i : Int)) (cutL out) := by
  refine Evn.succ (h := fun k => chicoryref03_Add.j1 k a b out 0 (i : Int) false) (fun k => by rw [chicoryref03_Add.l0, max_nat, if_neg hi]; rfl) ?_
  refine Evn.succ (h := fun k => (chicoryref03_Cut.f k out).bind fun t287 => (some t287)) (fun k => by rw [chicoryref03_Add.j1, if_neg (by decide)]) ?_
  exact Evn.bind (rcut_ev out (by omega)) (Evn.of fun _ => rfl)
theorem radd_loop (a b : List Int) (ha : dg 256 a) (hb : dg 256 b) (hal : a.length ≤ 1073741824) (hbl : b.length ≤ 1073741824) : ∀ (d i : Nat) (out : List Int) (c : Int), i + d = max a.length b.length → out.length = i → dg 256 out → 0 ≤ c → c ≤ 1 →
    vl 256 out + 256 ^ i * c = vl 256 (a.take i) + vl 256 (b.take i) → Evn (fun k => chicoryref03_Add.l0 k a b out c (i : Int)) (dgs 256 (vl 256 a + vl 256 b)) := by
  intro d
  induction d with
  | zero =>
    intro i out c hi ho hd hc hc1 h
    rw [List.take_of_length_le (by omega), List.take_of_length_le (by omega)] at h
    by_cases hz : c = 0
    · subst hz
      have := radd_fin a b out i (by omega) (by omega)
      rwa [cut_eq C2 hd (show vl 256 out = vl 256 a + vl 256 b by omega)] at this
    · obtain rfl : c = 1 := by omega
      have e1 := rd_beyond a i (by omega)
      have e2 := rd_beyond b i (by omega)
      have := radd_fin a b (out ++ [1]) (i + 1) (by omega) (by simp; omega)
      rw [cut_eq C2 (dg_append hd (dg_one (by omega) (by omega))) (show vl 256 (out ++ [1]) = vl 256 a + vl 256 b by rw [vl_append, vl_one, ho]; exact h)] at this
      have s := radd_step a b ha hb i (by omega) out ho 1 (by omega) (by omega) (dgs 256 (vl 256 a + vl 256 b)) (by rw [e1, e2]; exact this)
      refine Evn.succ (fun k => ?_) s
      rw [chicoryref03_Add.l0, max_nat, if_neg (by omega)]; rfl
  | succ d ih =>
    intro i out c hi ho hd hc hc1 h
    have ra := rd_bd ha C0 i
    have rb := rd_bd hb C0 i
    have e := Int.emod_add_mul_ediv (c + rd a (i : Int) + rd b (i : Int)) 256
    have s := radd_step a b ha hb i (by omega) out ho c hc hc1 (dgs 256 (vl 256 a + vl 256 b)) (ih (i + 1) _ _ (by omega) (by simp; omega) (dg_append hd (dg_one (by omega) (by omega))) (by omega) (by omega) (by
      rw [vl_append, vl_one, ho, vl_take_succ, vl_take_succ, Int.pow_succ]
      exact radd_alg _ _ _ c _ _ _ _ _ h e))
    refine Evn.succ (fun k => ?_) s
    rw [chicoryref03_Add.l0, max_nat, if_pos (by omega)]
theorem radd_ev (a b : List Int) (ha : dg 256 a) (hb : dg 256 b) (hal : a.length ≤ 1073741824) (hbl : b.length ≤ 1073741824) : Evn (fun k => chicoryref03_Add.f k a b) (dgs 256 (vl 256 a + vl 256 b)) :=
  Evn.congr (fun _ => rfl) (radd_loop a b ha hb hal hbl (max a.length b.length) 0 [] 0 (by omega) rfl dg_nil (by omega) (by omega) (by simp [vl]))
theorem rsub_alg (p s q c x y V1 V2 V3 : Int) (h : V1 - p * c = V2 - V3) (e : s = x - y - c + 256 * q) : V1 + p * s - p * 256 * q = V2 + p * x - (V3 + p * y) := by grind
theorem rsub_loop (a b : List Int) (ha : dg 256 a) (hb : dg 256 b) (hal : a.length ≤ 1073741824) (hle : vl 256 b ≤ vl 256 a) : ∀ (d i : Nat) (out : List Int) (c : Int), i + d = a.length → out.length = i → dg 256 out → 0 ≤ c → c ≤ 1 →
    vl 256 out - 256 ^ i * c = vl 256 (a.take i) - vl 256 (b.take i) → Evn (fun k => chicoryref03_Sub.l0 k a b out c (i : Int)) (dgs 256 (vl 256 a - vl 256 b)) := by
  intro d
  induction d with
  | zero =>
    intro i out c hi ho hd hc hc1 h
    obtain rfl : i = a.length := by omega
    have hav := vl_lt ha C0
    have hb0 := vl_nonneg hb C0
    have hbm : vl 256 (b.take a.length) = vl 256 b := by rw [← vl_mod hb C0]; exact Int.emod_eq_of_lt hb0 (by omega)
    rw [List.take_length, hbm] at h
    have hol := vl_lt hd C0
    rw [ho] at hol
    have hz : c = 0 := by
      generalize (256 : Int) ^ a.length = p at *
      by_cases hz : c = 0
      · exact hz
      · obtain rfl : c = 1 := by omega
        omega
    subst hz
    refine Evn.succ (h := fun k => (chicoryref03_Cut.f k out).bind fun t304 => (some t304)) (fun k => by rw [chicoryref03_Sub.l0, if_neg (by omega)]) ?_
    refine Evn.bind (rcut_ev out (by omega)) (Evn.of fun _ => ?_)
    rw [cut_eq C2 hd (show vl 256 out = vl 256 a - vl 256 b by omega)]
  | succ d ih =>
    intro i out c hi ho hd hc hc1 h
    have ra := rd_bd ha C0 i
    have rb := rd_bd hb C0 i
    by_cases hlt : rd a (i : Int) - rd b (i : Int) - c < 0
    · refine Evn.succ (fun k => ?_) (ih (i + 1) (out ++ [rd a (i : Int) - rd b (i : Int) - c + 256]) 1 (by omega) (by simp; omega) (dg_append hd (dg_one (by omega) (by omega))) (by omega) (by omega) (by
        rw [vl_append, vl_one, ho, vl_take_succ, vl_take_succ, Int.pow_succ]
        exact rsub_alg _ _ _ c _ _ _ _ _ h (by omega)))
      rw [chicoryref03_Sub.l0, if_pos (by omega), rat_nn a ha, rat_nn b hb]
      simp only [Option.bind_some]
      rw [w64 (rd a (i : Int) - rd b (i : Int)) (by omega) (by omega), w64 (rd a (i : Int) - rd b (i : Int) - c) (by omega) (by omega), if_pos hlt, if_pos (by omega), w64 _ (by omega) (by omega), w64 _ (by omega) (by omega), show (rd a (i : Int) - rd b (i : Int) - c + 256) % 256 = rd a (i : Int) - rd b (i : Int) - c + 256 by omega]
      rfl
    · refine Evn.succ (fun k => ?_) (ih (i + 1) (out ++ [rd a (i : Int) - rd b (i : Int) - c]) 0 (by omega) (by simp; omega) (dg_append hd (dg_one (by omega) (by omega))) (by omega) (by omega) (by
        rw [vl_append, vl_one, ho, vl_take_succ, vl_take_succ, Int.pow_succ]
        exact rsub_alg _ _ 0 c _ _ _ _ _ h (by omega)))
      rw [chicoryref03_Sub.l0, if_pos (by omega), rat_nn a ha, rat_nn b hb]
      simp only [Option.bind_some]
      rw [w64 (rd a (i : Int) - rd b (i : Int)) (by omega) (by omega), w64 (rd a (i : Int) - rd b (i : Int) - c) (by omega) (by omega), if_neg hlt, if_pos (by omega), w64 _ (by omega) (by omega), show (rd a (i : Int) - rd b (i : Int) - c) % 256 = rd a (i : Int) - rd b (i : Int) - c by omega]
      rfl
theorem rsub_ev (a b : List Int) (ha : dg 256 a) (hb : dg 256 b) (hal : a.length ≤ 1073741824) (hle : vl 256 b ≤ vl 256 a) : Evn (fun k => chicoryref03_Sub.f k a b) (dgs 256 (vl 256 a - vl 256 b)) :=
  Evn.congr (fun _ => rfl) (rsub_loop a b ha hb hal hle a.length 0 [] 0 (by omega) rfl dg_nil (by omega) (by omega) (by simp [vl]))
end Go.Proofs.Ytdaehflffecllaa.A
namespace Go.Proofs.Ytdaehflffecllaa.A
open Go.RowKit Go.Proofs.YtdaehflffecllaaW.PrintWords Go.Proofs.Ytdaehflffecllaa.N Go.Proofs.Ytdaehflffecllaa.T
/-- A number whose bits go up, or down. -/
def shv (n b : Int) : Int := if 0 ≤ b then n * 2 ^ b.toNat else n / 2 ^ (-b).toNat
theorem mod_succ (R B p : Int) (hp : 0 < p) : R % (p * B) = R % p + p * (R / p % B) := by
  have e1 := Int.emod_add_mul_ediv R (p * B)
  have e2 := Int.emod_add_mul_ediv R p
  have e3 := Int.emod_add_mul_ediv (R / p) B
  rw [← Int.ediv_ediv_of_nonneg (Int.le_of_lt hp)] at e1
  grind
theorem shv_nonneg {n : Int} (h : 0 ≤ n) (b : Int) : 0 ≤ shv n b := by
  unfold shv; split
  · exact Int.mul_nonneg h (Int.le_of_lt (two_pos _))
  · exact ediv_nn h (Int.le_of_lt (two_pos _))
end Go.Proofs.Ytdaehflffecllaa.A
namespace Go.Proofs.Ytdaehflffecllaa.A
open Go.RowKit Go.Proofs.YtdaehflffecllaaW.PrintWords Go.Proofs.Ytdaehflffecllaa.N Go.Proofs.Ytdaehflffecllaa.T
theorem shv_bit (n b : Int) (t : Nat) : bitv (shv n b) (t : Int) = bitv n ((t : Int) - b) := by
  rw [bitv_nat]
  unfold shv bitv
  by_cases hb : 0 ≤ b
  · obtain ⟨c, rfl⟩ := Int.eq_ofNat_of_zero_le hb
    rw [if_pos hb, Int.toNat_natCast]
    by_cases hlt : (t : Int) - (c : Int) < 0
    · rw [if_pos hlt]
      obtain ⟨d, rfl⟩ : ∃ d, c = t + (d + 1) := ⟨c - t - 1, by omega⟩
      rw [Int.pow_add, ← Int.mul_assoc, Int.mul_right_comm, Int.mul_ediv_cancel _ (by have := two_pos t; omega), Int.pow_succ, ← Int.mul_assoc, Int.mul_emod_left]
    · rw [if_neg hlt]
      obtain ⟨d, rfl⟩ : ∃ d, t = d + c := ⟨t - c, by omega⟩
      rw [show (((d + c : Nat) : Int) - (c : Int)).toNat = d by omega, Int.pow_add, Int.mul_ediv_mul_of_pos_left _ _ (two_pos c)]
  · rw [if_neg hb, if_neg (by omega), Int.ediv_ediv_of_nonneg (Int.le_of_lt (two_pos _)), ← Int.pow_add]
    congr 3; omega
theorem bit_in (R : Int) (s j : Nat) : 2 * (R / 2 ^ (s + 1) % 2 ^ j) + R / 2 ^ s % 2 = R / 2 ^ s % 2 ^ (j + 1) := by
  have e : R / 2 ^ (s + 1) = R / 2 ^ s / 2 := by rw [Int.ediv_ediv_of_nonneg (Int.le_of_lt (two_pos s)), Int.pow_succ]
  rw [e, Int.pow_succ, Int.mul_comm (2 ^ j) 2, mod_succ (R / 2 ^ s) (2 ^ j) 2 (by omega)]
  omega
theorem rshift_inner (b : List Int) (hb : dg 256 b) (bl : Int) (hb0 : -1048576 ≤ bl) (hb1 : bl ≤ 1048576) (n : Int) (i : Nat) (hi : i ≤ 1099511627776) (out : List Int) (hol : out.length ≤ 1099511627776) (r : List Int)
    (H : Evn (fun k => chicoryref03_Shift.l0 k b bl (out ++ [shv (vl 256 b) bl / 2 ^ i % 256]) n ((i : Int) + 8)) r) :
    ∀ j : Nat, j ≤ 8 → Evn (fun k => chicoryref03_Shift.l1 k b bl out n (i : Int) (shv (vl 256 b) bl / 2 ^ (i + j) % 2 ^ (8 - j)) ((j : Int) - 1)) r := by
  intro j
  induction j with
  | zero =>
    intro _
    refine Evn.succ (fun k => ?_) H
    have : shv (vl 256 b) bl / 2 ^ (i + 0) % 2 ^ (8 - 0) % 256 = shv (vl 256 b) bl / 2 ^ i % 256 := by
      rw [show (2 : Int) ^ (8 - 0) = 256 from rfl, Nat.add_zero]; omega
    rw [chicoryref03_Shift.l1, if_neg (by omega), if_pos (by omega), w64 ((i : Int) + 8) (by omega) (by omega), this]
  | succ j ih =>
    intro hj
    have em : ((j + 1 : Nat) : Int) - 1 = (j : Int) := by omega
    have hin := bit_in (shv (vl 256 b) bl) (i + j) (8 - (j + 1))
    rw [show 8 - (j + 1) + 1 = 8 - j by omega] at hin
    have hx0 := Int.emod_nonneg (shv (vl 256 b) bl / 2 ^ (i + j + 1)) (show (2 : Int) ^ (8 - (j + 1)) ≠ 0 by have := two_pos (8 - (j + 1)); omega)
    have hx1 := Int.emod_lt_of_pos (shv (vl 256 b) bl / 2 ^ (i + j + 1)) (two_pos (8 - (j + 1)))
    have hx2 : (2 : Int) ^ (8 - (j + 1)) ≤ 2 ^ 8 := pow_le (by omega) (by omega)
    rw [show (2 : Int) ^ 8 = 256 from rfl] at hx2
    have hbit := rbit_ev b hb ((i : Int) + (j : Int) - bl) (by omega)
    have hsb := shv_bit (vl 256 b) bl (i + j)
    rw [show ((i + j : Nat) : Int) - bl = (i : Int) + (j : Int) - bl by omega] at hsb
    rw [← hsb, bitv_nat] at hbit
    refine Evn.succ (h := fun k => (chicoryref03_Bit.f k b ((i : Int) + (j : Int) - bl)).bind fun t480 => (chicoryref03_Shift.l1 k b bl out n (i : Int) (wrap64 ((wrap64 (2 * (shv (vl 256 b) bl / 2 ^ (i + (j + 1)) % 2 ^ (8 - (j + 1))))) + t480)) (wrap64 ((j : Int) - 1)))) (fun k => by
      rw [chicoryref03_Shift.l1, em, if_pos (by omega), w64 ((i : Int) + (j : Int)) (by omega) (by omega), w64 ((i : Int) + (j : Int) - bl) (by omega) (by omega)]) (Evn.bind hbit (Evn.congr (fun k => ?_) (ih (by omega))))
    rw [show i + (j + 1) = i + j + 1 by omega, w64 (2 * (shv (vl 256 b) bl / 2 ^ (i + j + 1) % 2 ^ (8 - (j + 1)))) (by omega) (by omega), w64 _ (by omega) (by omega), w64 _ (by omega) (by omega), hin]
theorem shv_lt2 {n : Int} (b : Int) (hn : 0 ≤ n) (t : Nat) (h : nbit n + b ≤ t) : shv n b < 2 ^ t := by
  have hl := nbit_lt hn
  have h0 := nbit_nonneg n
  unfold shv
  by_cases hb : 0 ≤ b
  · rw [if_pos hb]
    have a1 := Int.mul_lt_mul_of_pos_right hl (two_pos b.toNat)
    rw [← Int.pow_add] at a1
    have : (2 : Int) ^ ((nbit n).toNat + b.toNat) ≤ 2 ^ t := pow_le (by omega) (by omega)
    omega
  · rw [if_neg hb]
    refine Int.ediv_lt_of_lt_mul (two_pos _) ?_
    rw [← Int.pow_add]
    have : (2 : Int) ^ (nbit n).toNat ≤ 2 ^ (t + (-b).toNat) := pow_le (by omega) (by omega)
    omega
theorem rshift_loop (b : List Int) (hb : dg 256 b) (bl : Int) (hb0 : -1048576 ≤ bl) (hb1 : bl ≤ 1048576) (hbl : b.length ≤ 1073741824) : ∀ (d t : Nat) (out : List Int), nbit (vl 256 b) + bl ≤ 8 * (t : Int) + 8 * d → 8 * (t : Int) < nbit (vl 256 b) + bl + 8 ∨ t = 0 → out.length = t → dg 256 out → vl 256 out = shv (vl 256 b) bl % 256 ^ t →
    Evn (fun k => chicoryref03_Shift.l0 k b bl out (nbit (vl 256 b) + bl) ((8 * t : Nat) : Int)) (dgs 256 (shv (vl 256 b) bl)) := by
  have hn := vl_nonneg hb C0
  have hL : nbit (vl 256 b) ≤ 8 * b.length := by
    have := nbit_le (n := vl 256 b) (m := 8 * b.length) (by rw [Int.pow_mul]; exact vl_lt hb C0)
    omega
  have hnb := nbit_nonneg (vl 256 b)
  intro d
  induction d with
  | zero =>
    intro t out hi hi2 ho hd hv
    have hlt : shv (vl 256 b) bl < 256 ^ t := by
      have := shv_lt2 bl hn (8 * t) (by omega)
      rwa [Int.pow_mul] at this
    rw [Int.emod_eq_of_lt (shv_nonneg hn bl) hlt] at hv
    refine Evn.succ (h := fun k => (chicoryref03_Cut.f k out).bind fun t477 => (some t477)) (fun k => by rw [chicoryref03_Shift.l0, if_neg (by omega)]) ?_
    refine Evn.bind (rcut_ev out (by omega)) (Evn.of fun _ => ?_)
    rw [cut_eq C2 hd hv]
  | succ d ih =>
    intro t out hi hi2 ho hd hv
    by_cases hlt : ((8 * t : Nat) : Int) < nbit (vl 256 b) + bl
    · have hp : (2 : Int) ^ (8 * t) = 256 ^ t := by rw [Int.pow_mul]; rfl
      have k1 := ih (t + 1) (out ++ [shv (vl 256 b) bl / 2 ^ (8 * t) % 256]) (by omega) (by omega) (by simp [ho]) (dg_append hd (dg_one (by omega) (by omega))) (by
        rw [vl_append, vl_one, ho, hv, hp, Int.pow_succ, mod_succ _ _ _ (pow_pos C0 t)])
      have k2 := rshift_inner b hb bl hb0 hb1 (nbit (vl 256 b) + bl) (8 * t) (by omega) out (by omega) (dgs 256 (shv (vl 256 b) bl)) (Evn.congr (fun k => by rw [show ((8 * t : Nat) : Int) + 8 = ((8 * (t + 1) : Nat) : Int) by omega]) k1) 8 (by omega)
      refine Evn.succ (fun k => ?_) k2
      rw [chicoryref03_Shift.l0, if_pos hlt]
      simp
    · have hlt2 : shv (vl 256 b) bl < 256 ^ t := by
        have := shv_lt2 bl hn (8 * t) (by omega)
        rwa [Int.pow_mul] at this
      rw [Int.emod_eq_of_lt (shv_nonneg hn bl) hlt2] at hv
      refine Evn.succ (h := fun k => (chicoryref03_Cut.f k out).bind fun t477 => (some t477)) (fun k => by rw [chicoryref03_Shift.l0, if_neg hlt]) ?_
      refine Evn.bind (rcut_ev out (by omega)) (Evn.of fun _ => ?_)
      rw [cut_eq C2 hd hv]
theorem rshift_ev (b : List Int) (hb : dg 256 b) (bl : Int) (hb0 : -1048576 ≤ bl) (hb1 : bl ≤ 1048576) (hbl : b.length ≤ 1073741824) : Evn (fun k => chicoryref03_Shift.f k b bl) (dgs 256 (shv (vl 256 b) bl)) := by
  have hnb := nbit_nonneg (vl 256 b)
  have hL : nbit (vl 256 b) ≤ 8 * b.length := by
    have := nbit_le (n := vl 256 b) (m := 8 * b.length) (by rw [Int.pow_mul]; exact vl_lt hb C0)
    omega
  have := rshift_loop b hb bl hb0 hb1 hbl (nbit (vl 256 b) + bl).toNat 0 [] (by omega) (.inr rfl) rfl dg_nil (by simp [vl])
  refine Evn.congr (fun k => by rw [chicoryref03_Shift.f]) (Evn.bind (rlen_ev b hb (by omega)) (Evn.congr (fun k => ?_) this))
  rw [w64 _ (by omega) (by omega)]; rfl
end Go.Proofs.Ytdaehflffecllaa.A
namespace Go.Proofs.Ytdaehflffecllaa.A
open Go.RowKit Go.Proofs.YtdaehflffecllaaW.PrintWords Go.Proofs.Ytdaehflffecllaa.N Go.Proofs.Ytdaehflffecllaa.T
theorem and_i64 (x : Int) (h0 : 0 ≤ x) (h1 : x < 9223372036854775808) : Go.bits .and .i64 x 1 = x % 2 := by
  obtain ⟨a, rfl⟩ := Int.eq_ofNat_of_zero_le h0
  have := (bits_nat .i64 63 (by decide) (fun n h0 h1 => by rw [IntKind.wrap_i64]; omega) a 1 (by omega) (by omega)).1
  rw [Nat.and_one_is_mod] at this
  rw [show ((1 : Nat) : Int) = 1 from rfl] at this
  rw [this, Int.natCast_emod]; rfl
/-- The digits as a list. -/
def nafL (N : Int) (b n : Nat) : List Int := rowL (nafD N b) n
theorem pow8b (b : Nat) (hb : b ≤ 8) : (2 : Int) ^ b ≤ 256 := by
  have hp : (2 : Int) ^ b ≤ 2 ^ 8 := pow_le (by omega) hb
  exact hp
theorem half_div (N : Int) (i : Nat) : N / 2 ^ (i + 1) = N / 2 ^ i / 2 := by
  rw [Int.pow_succ, Int.ediv_ediv_of_nonneg (Int.le_of_lt (two_pos i))]
theorem naf_loop (l : List Int) (h : dg 256 l) (hl : l.length ≤ 64) (b : Nat) (hb : 2 ≤ b) (hb8 : b ≤ 8) (n : Nat) (hn : n = 8 * l.length + 1) : ∀ (d i : Nat) (over : Int) (x : List Int), n ≤ i + d → i ≤ n + 8 → x.length = n → 0 ≤ over → over ≤ 1 →
    nafM (vl 256 l) b i = vl 256 l / 2 ^ i + over → (∀ j, j < i → j < n → rd x (j : Int) = nafD (vl 256 l) b j) → (∀ j, i ≤ j → j < n → rd x (j : Int) = 0) →
    Evn (fun k => digits_Naf.l0 k (b : Int) l x over (i : Int)) (nafL (vl 256 l) b n, 0) := by
  intro d
  induction d with
  | zero =>
    intro i over x hd hi hx _ _ _ h1 _
    refine Evn.succ (h := fun _ => some (nafL (vl 256 l) b n, 0)) (fun k => ?_) (Evn.of fun _ => rfl)
    rw [digits_Naf.l0, if_neg (by omega)]
    unfold nafL
    rw [rowL_ext x (nafD (vl 256 l) b) n hx (fun j hj => h1 j (by omega) hj)]
  | succ d ih =>
    intro i over x hd hi hx ho0 ho1 hM h1 h2
    by_cases hin : i < n
    · have hr := reader_eval l h (by omega) i (by omega)
      have hb0 := bitv_bd (vl 256 l) (i : Int)
      have hbe : bitv (vl 256 l) (i : Int) = vl 256 l / 2 ^ i % 2 := bitv_nat _ _
      have hand := and_i64 (bitv (vl 256 l) (i : Int) + over) (by omega) (by omega)
      have hpar : nafM (vl 256 l) b i % 2 = (bitv (vl 256 l) (i : Int) + over) % 2 := by rw [hM, hbe]; omega
      have hhd := half_div (vl 256 l) i
      by_cases he : nafM (vl 256 l) b i % 2 = 0
      · have hD : nafD (vl 256 l) b i = 0 := nd_zero he
        have hS := nafM_succ (vl 256 l) b i (by omega)
        rw [hD] at hS
        refine Evn.succ (fun k => ?_) (ih (i + 1) over x (by omega) (by omega) hx ho0 ho1 (by omega) (fun j hj hj2 => ?_) (fun j hj hj2 => h2 j (by omega) hj2))
        · rw [digits_Naf.l0, if_pos (by omega), hr, bsome', w64 (bitv (vl 256 l) (i : Int) + over) (by omega) (by omega), hand, if_pos (by omega), w64 ((i : Int) + 1) (by omega) (by omega)]; rfl
        · by_cases hji : j = i
          · rw [hji, h2 i (by omega) hin, hD]
          · exact h1 j (by omega) hj2
      · have hodd := nd_odd (b := b) (by omega) he
        have hDn : ¬ nafD (vl 256 l) b i = 0 := fun e => by have h9 : nafD (vl 256 l) b i % 2 = 1 := hodd.1; rw [e] at h9; omega
        have hjump := naf_jump (vl 256 l) b i hb hDn
        have hgap := naf_gap (vl 256 l) b i (by omega) hDn
        have hwin := win_one (vl 256 l) i b
        have hwb := win_bd (vl 256 l) i 1 b
        have hh := pow_half b (by omega)
        have hp := two_pos (b - 1)
        have hp2 : (2 : Int) ^ 1 ≤ 2 ^ (b - 1) := pow_le (by omega) (by omega)
        rw [show (2 : Int) ^ 1 = 2 from rfl] at hp2
        have h8 := pow8b b hb8
        -- what is read is less than 2^b
        have hmod : win (vl 256 l) i 1 b + over = nafM (vl 256 l) b i % 2 ^ b := by
          have e2 := mod_pow_two (vl 256 l / 2 ^ i) b (by omega)
          have hlt : win (vl 256 l) i 1 b + over < 2 ^ b := by
            rcases (show over = 0 ∨ over = 1 by omega) with h9 | h9
            · omega
            · have e3 : (2 : Int) ^ b = 2 * 2 ^ (b - 1) := hh
              omega
          rw [hM]
          refine (mod_of (q := vl 256 l / 2 ^ i / 2 ^ b) ?_ (by omega) hlt).symm
          have := Int.emod_add_mul_ediv (vl 256 l / 2 ^ i) (2 ^ b)
          omega
        have hq1 : (win (vl 256 l) i 1 b + over) / 2 ^ (b - 1) = if 2 ^ (b - 1) ≤ win (vl 256 l) i 1 b + over then 1 else 0 := by
          have hlt : win (vl 256 l) i 1 b + over < 2 ^ b := by rw [hmod]; exact Int.emod_lt_of_pos _ (by omega)
          split
          · exact div_of (r := win (vl 256 l) i 1 b + over - 2 ^ (b - 1)) (by omega) (by omega) (by omega)
          · exact Int.ediv_eq_zero_of_lt (by omega) (by omega)
        generalize hov : (win (vl 256 l) i 1 b + over) / 2 ^ (b - 1) = ov2 at hq1
        have hov2 : ov2 = 0 ∨ ov2 = 1 := by rw [hq1]; split <;> omega
        have hDig : win (vl 256 l) i 1 b + over - ov2 * 2 ^ b = nafD (vl 256 l) b i := by
          show _ = nd b (nafM (vl 256 l) b i)
          unfold nd
          rw [if_neg he, ← hmod, hq1]
          split <;> omega
        have hNext : nafM (vl 256 l) b (i + b) = vl 256 l / 2 ^ (i + b) + ov2 := by
          rw [hjump, Int.pow_add, ← Int.ediv_ediv_of_nonneg (Int.le_of_lt (two_pos i))]
          refine div_of (r := 0) ?_ (by omega) (by omega)
          have e4 := Int.emod_add_mul_ediv (vl 256 l / 2 ^ i) (2 ^ b)
          rw [Int.mul_add, Int.mul_comm (2 ^ b) ov2]
          omega
        have ew := window_ev l h (by omega) i 1 b (by omega) (by omega) (by omega)
        rw [show ((1 : Nat) : Int) = 1 from rfl] at ew
        have hdb := nd_bd (b := b) (nafM (vl 256 l) b i) (by omega)
        have hdb' : -(2 ^ (b - 1)) ≤ nafD (vl 256 l) b i ∧ nafD (vl 256 l) b i < 2 ^ (b - 1) := hdb
        have m0 : 0 ≤ ov2 * 2 ^ b ∧ ov2 * 2 ^ b ≤ 256 := by rcases hov2 with h9 | h9 <;> rw [h9] <;> omega
        refine Evn.succ (fun k => by rw [digits_Naf.l0, if_pos (by omega), hr, bsome', w64 (bitv (vl 256 l) (i : Int) + over) (by omega) (by omega), hand, if_neg (by omega)]) (Evn.bind ew ?_)
        refine Evn.congr (fun k => ?_) (ih (i + b) ov2 (x.set i (nafD (vl 256 l) b i)) (by omega) (by omega) (by simp [hx]) (by omega) (by omega) hNext (fun j hj hj2 => ?_) (fun j hj hj2 => ?_))
        · rw [w64 ((b : Int) - 1) (by omega) (by omega), if_pos (by omega), if_pos (by omega), if_pos (by omega), w64 (win (vl 256 l) i 1 b + over) (by omega) (by omega), show (b : Int) - 1 = ((b - 1 : Nat) : Int) by omega, shr_i64 _ _ (by omega), hov, shl_i64 _ _ (by omega) (by omega) (by omega), hDig, w64 (nafD (vl 256 l) b i) (by omega) (by omega), w64 ((i : Int) + (b : Int)) (by omega) (by omega), Int.toNat_natCast]
          rfl
        · rw [rd_set _ _ _ _ (by omega)]
          by_cases hji : i = j
          · rw [if_pos hji, hji]
          · rw [if_neg hji]
            by_cases hjl : j < i
            · exact h1 j hjl hj2
            · obtain ⟨t, rfl⟩ : ∃ t, j = i + 1 + t := ⟨j - i - 1, by omega⟩
              rw [h2 _ (by omega) hj2, (hgap t (by omega)).1]
        · rw [rd_set _ _ _ _ (by omega), if_neg (by omega), h2 j (by omega) hj2]
    · refine Evn.succ (h := fun _ => some (nafL (vl 256 l) b n, 0)) (fun k => ?_) (Evn.of fun _ => rfl)
      rw [digits_Naf.l0, if_neg (by omega)]
      unfold nafL
      rw [rowL_ext x (nafD (vl 256 l) b) n hx (fun j hj => h1 j (by omega) hj)]
theorem naf_ev (l : List Int) (h : dg 256 l) (hl : l.length ≤ 64) (b : Nat) (hb : 2 ≤ b) (hb8 : b ≤ 8) : Evn (fun k => digits_Naf.f k l (b : Int)) (nafL (vl 256 l) b (8 * l.length + 1), 0) := by
  have e := naf_loop l h hl b hb hb8 (8 * l.length + 1) rfl (8 * l.length + 1) 0 0 (List.replicate (8 * l.length + 1) 0) (by omega) (by omega) (by simp) (by omega) (by omega) (by simp [nafM]) (fun j hj => by omega) (fun j _ hj => by rw [rd_get _ _ (by simpa using hj)]; simp)
  refine Evn.congr (fun k => by unfold digits_Naf.f; rfl) (Evn.bind (check_ev l 2 (b : Int) 0 (by rw [if_neg (by omega), if_neg (by omega)])) ?_)
  refine Evn.congr (fun k => ?_) e
  rw [if_pos rfl]
  unfold digits_reader.f
  rw [bsome', w64 (8 * (l.length : Int)) (by omega) (by omega), w64 (8 * (l.length : Int) + 1) (by omega) (by omega), if_pos (by omega), show (8 * (l.length : Int) + 1).toNat = 8 * l.length + 1 by omega, if_pos (by omega)]
  rfl
theorem naf_err (l : List Int) (n e0 : Int) (he : e0 = (if 64 < l.length then 11 else if n < 2 ∨ 8 < n then 10 else 0)) (hz : ¬ e0 = 0) : Evn (fun k => digits_Naf.f k l n) ([], e0) := by
  refine Evn.congr (fun k => by unfold digits_Naf.f; rfl) (Evn.bind (check_ev l 2 n e0 he) (Evn.of fun k => ?_))
  rw [if_neg hz]
theorem rnaf_inner (l : List Int) (M : Int) (h0 : 0 ≤ M) (b : Nat) (hb8 : b ≤ 8) (out : List Int) (i : Int) (r : List Int)
    (hr : Evn (fun k => chicoryref07_Naf.l1 k l (b : Int) (dgs 256 M) out i (win M 0 1 b) (-1)) r) :
    ∀ (j m : Nat), j + m = b → Evn (fun k => chicoryref07_Naf.l1 k l (b : Int) (dgs 256 M) out i (win M (0 + j) 1 m) ((j : Int) - 1)) r := by
  intro j
  induction j with
  | zero => intro m hm; obtain rfl : m = b := by omega
            exact hr
  | succ j ih =>
    intro m hm
    have hw := win_le M (0 + (j + 1)) 1 m (by omega)
    have hh := win_head M (0 + j) 1 m
    have hb := bitv_bd M ((0 + j : Nat) : Int)
    have e := rbit_ev (dgs 256 M) (dgs_dg C2 M h0) (((j + 1 : Nat) : Int) - 1) (by omega)
    rw [vl_dgs C2 M h0, show ((j + 1 : Nat) : Int) - 1 = ((0 + j : Nat) : Int) by omega] at e
    refine Evn.succ (fun k => by rw [chicoryref07_Naf.l1, if_pos (by omega), show ((j + 1 : Nat) : Int) - 1 = ((0 + j : Nat) : Int) by omega]) (Evn.bind e ?_)
    refine Evn.congr (fun k => ?_) (ih (m + 1) (by omega))
    rw [w64 (2 * win M (0 + (j + 1)) 1 m) (by omega) (by omega), w64 (2 * win M (0 + (j + 1)) 1 m + bitv M ((0 + j : Nat) : Int)) (by omega) (by omega), w64 (((0 + j : Nat) : Int) - 1) (by omega) (by omega), hh, show 0 + (j + 1) = 0 + j + 1 by omega, Int.add_comm (bitv M ((0 + j : Nat) : Int)), show ((0 + j : Nat) : Int) = (j : Int) by omega]
theorem naf_len {M : Int} (h0 : 0 ≤ M) (h : M ≤ 2 ^ 512 + 256) : (dgs 256 M).length ≤ 65 := by
  refine dgs_len_le C2 M h0 65 ?_
  have h2 : (2 : Int) ^ 512 + 256 < 256 ^ 65 := by decide +kernel
  omega
theorem rnaf_loop (l : List Int) (N : Int) (hN : 0 ≤ N) (hl : l.length ≤ 64) (hNl : N ≤ 2 ^ (8 * l.length)) (b : Nat) (hb : 2 ≤ b) (hb8 : b ≤ 8) : ∀ (d i : Nat), i + d = 8 * l.length + 1 →
    Evn (fun k => chicoryref07_Naf.l0 k l (b : Int) (dgs 256 (nafM N b i)) (rowL (nafD N b) i) (i : Int)) (nafL N b (8 * l.length + 1)) := by
  intro d
  induction d with
  | zero =>
    intro i hi
    obtain rfl : i = 8 * l.length + 1 := by omega
    refine Evn.succ (h := fun _ => some (nafL N b (8 * l.length + 1))) (fun k => ?_) (Evn.of fun _ => rfl)
    rw [chicoryref07_Naf.l0, w64 (8 * (l.length : Int)) (by omega) (by omega), if_neg (by omega)]; rfl
  | succ d ih =>
    intro i hi
    have hnext := ih (i + 1) (by omega)
    rw [rowL_succ] at hnext
    have hM0 := nafM_nonneg b (by omega) hN i
    have hM1 := nafM_le b (8 * l.length) hb hN hNl i (by omega)
    have hM2 : (2 : Int) ^ (8 * l.length - i) ≤ 2 ^ 511 ∨ (2 : Int) ^ (8 * l.length - i) ≤ 2 ^ 512 := .inr (pow_le (by omega) (by omega))
    have hM3 : nafM N b i ≤ 2 ^ 512 := by rcases hM2 with h | h <;> first | omega | (have : (2 : Int) ^ 511 ≤ 2 ^ 512 := pow_le (by omega) (by omega); omega)
    have hdg := dgs_dg C2 (nafM N b i) hM0
    have hvl := vl_dgs C2 (nafM N b i) hM0
    have hlen := naf_len hM0 (by omega)
    have e0 : Evn (fun k => chicoryref03_Bit.f k (dgs 256 (nafM N b i)) 0) (nafM N b i % 2) := by
      have e := rbit_ev (dgs 256 (nafM N b i)) hdg ((0 : Nat) : Int) (by omega)
      rw [hvl, bitv_nat, show (2 : Int) ^ 0 = 1 from rfl, Int.ediv_one] at e
      exact e
    have hrl : (rowL (nafD N b) i).length = i := rowL_len _ _
    refine Evn.succ (fun k => by rw [chicoryref07_Naf.l0, w64 (8 * (l.length : Int)) (by omega) (by omega), if_pos (by omega)]) (Evn.bind e0 ?_)
    by_cases he : nafM N b i % 2 = 0
    · have hD : nafD N b i = 0 := nd_zero he
      have hS := nafM_succ N b i (by omega)
      have es := rshift_ev (dgs 256 (nafM N b i)) hdg (-1) (by omega) (by omega) (by omega)
      rw [hvl, show shv (nafM N b i) (-1) = nafM N b i / 2 by unfold shv; rw [if_neg (by omega)]; rfl, show nafM N b i / 2 = nafM N b (i + 1) by omega] at es
      rw [hD] at hnext
      refine Evn.congr (fun k => by rw [he, if_neg (by omega), if_pos (by omega)]) (Evn.bind es ?_)
      refine Evn.congr (fun k => ?_) hnext
      rw [w64 ((i : Int) + 1) (by omega) (by omega)]; rfl
    · have ho : nafM N b i % 2 = 1 := by omega
      have hodd := nd_odd (b := b) (by omega) he
      have hdb : -(2 ^ (b - 1)) ≤ nafD N b i ∧ nafD N b i < 2 ^ (b - 1) := nd_bd (b := b) (nafM N b i) (by omega)
      have hS := nafM_succ N b i (by omega)
      have hnn := nafM_nonneg b (by omega) hN (i + 1)
      have hh := pow_half b (by omega)
      have hp := two_pos (b - 1)
      have h8 := pow8b b hb8
      have hwin : win (nafM N b i) 0 1 b = nafM N b i % 2 ^ b := by rw [win_one, show (2 : Int) ^ 0 = 1 from rfl, Int.ediv_one]
      have hwb := win_bd (nafM N b i) 0 1 b
      have hDef : nafD N b i = if 2 ^ (b - 1) ≤ nafM N b i % 2 ^ b then nafM N b i % 2 ^ b - 2 ^ b else nafM N b i % 2 ^ b := by show nd b _ = _; unfold nd; rw [if_neg he]
      rw [← hwin] at hDef
      refine Evn.congr (fun k => by rw [ho, if_pos rfl, w64 ((b : Int) - 1) (by omega) (by omega)]; rfl) (rnaf_inner l (nafM N b i) hM0 b hb8 (rowL (nafD N b) i) (i : Int) _ ?_ b 0 (by omega))
      refine Evn.succ (fun k => by rw [chicoryref07_Naf.l1, if_neg (by omega), w64 ((b : Int) - 1) (by omega) (by omega), show (b : Int) - 1 = ((b - 1 : Nat) : Int) by omega]) (Evn.bind (power_ev (b - 1) (by omega)) ?_)
      by_cases hc : 2 ^ (b - 1) ≤ win (nafM N b i) 0 1 b
      · rw [if_pos hc] at hDef
        have hx : wrap64 (-wrap64 (win (nafM N b i) 0 1 b - 2 ^ b)) % 256 = -(nafD N b i) := by
          rw [w64 (win (nafM N b i) 0 1 b - 2 ^ b) (by omega) (by omega), w64 _ (by omega) (by omega), Int.emod_eq_of_lt (by omega) (by omega), hDef]
        have ea := radd_ev (dgs 256 (nafM N b i)) [-(nafD N b i)] hdg (dg_one (by omega) (by omega)) (by omega) (by simp)
        rw [hvl, vl_one, show nafM N b i + -nafD N b i = 2 * nafM N b (i + 1) by omega] at ea
        have es := rshift_ev (dgs 256 (2 * nafM N b (i + 1))) (dgs_dg C2 _ (by omega)) (-1) (by omega) (by omega) (by have := naf_len (M := 2 * nafM N b (i + 1)) (by omega) (by omega); omega)
        rw [vl_dgs C2 _ (by omega), show shv (2 * nafM N b (i + 1)) (-1) = nafM N b (i + 1) by unfold shv; rw [if_neg (by omega)]; show 2 * nafM N b (i + 1) / 2 = _; omega] at es
        refine Evn.congr (fun k => by rw [if_pos hc]) (Evn.bind (power_ev b (by omega)) ?_)
        refine Evn.congr (fun k => by rw [hx]) (Evn.bind ea ?_)
        refine Evn.congr (fun k => by rw [if_pos (by omega)]) (Evn.bind es ?_)
        refine Evn.congr (fun k => ?_) hnext
        rw [w64 (win (nafM N b i) 0 1 b - 2 ^ b) (by omega) (by omega), ← hDef, w64 ((i : Int) + 1) (by omega) (by omega)]; rfl
      · rw [if_neg hc] at hDef
        have hx : win (nafM N b i) 0 1 b % 256 = nafD N b i := by rw [hDef, Int.emod_eq_of_lt (by omega) (by omega)]
        have ea := rsub_ev (dgs 256 (nafM N b i)) [nafD N b i] hdg (dg_one (by omega) (by omega)) (by omega) (by rw [vl_one, hvl]; omega)
        rw [hvl, vl_one, show nafM N b i - nafD N b i = 2 * nafM N b (i + 1) by omega] at ea
        have es := rshift_ev (dgs 256 (2 * nafM N b (i + 1))) (dgs_dg C2 _ (by omega)) (-1) (by omega) (by omega) (by have := naf_len (M := 2 * nafM N b (i + 1)) (by omega) (by omega); omega)
        rw [vl_dgs C2 _ (by omega), show shv (2 * nafM N b (i + 1)) (-1) = nafM N b (i + 1) by unfold shv; rw [if_neg (by omega)]; show 2 * nafM N b (i + 1) / 2 = _; omega] at es
        refine Evn.congr (fun k => by rw [if_neg (by omega), hx]) (Evn.bind ea ?_)
        refine Evn.congr (fun k => by rw [if_pos (by omega)]) (Evn.bind es ?_)
        refine Evn.congr (fun k => ?_) hnext
        rw [← hDef, w64 ((i : Int) + 1) (by omega) (by omega)]; rfl
theorem rnaf_ev (l : List Int) (h : dg 256 l) (hl : l.length ≤ 64) (b : Nat) (hb : 2 ≤ b) (hb8 : b ≤ 8) : Evn (fun k => chicoryref07_Naf.f k l (b : Int)) (nafL (vl 256 l) b (8 * l.length + 1)) := by
  have n0 := vl_nonneg h C0
  have hlt := vl_lt h C0
  have e256 : (256 : Int) ^ l.length = 2 ^ (8 * l.length) := by rw [Int.pow_mul]; rfl
  have e := rnaf_loop l (vl 256 l) n0 hl (by omega) b hb hb8 (8 * l.length + 1) 0 (by omega)
  refine Evn.congr (fun k => by unfold chicoryref07_Naf.f; rfl) (Evn.bind (rcut_ev l (by omega)) ?_)
  rw [cut_dgs C2 l h]
  exact e
end Go.Proofs.Ytdaehflffecllaa.A
namespace Go.Proofs.Ytdaehflffecllaa.Pure
open Go.RowKit Go.Proofs.Ytdaehflffecllaa.N Go.Proofs.YtdaehflffecllaaW.PrintWords Go.Proofs.Ytdaehflffecllaa.T Go.Proofs.Ytdaehflffecllaa.A
def wr (l : List Int) (n m : Int) : Int := if 64 < l.length then 11 else if n < m ∨ 8 < n then 10 else 0
theorem wrong_eval (l : List Int) (n m : Int) : chicorylaw07_wrong.f l n m = some (wr l n m) := by
  unfold chicorylaw07_wrong.f wr
  by_cases h : 64 < l.length
  · rw [if_pos (by omega), if_pos h]
  · rw [if_neg (by omega), if_neg h]
    by_cases h1 : n < m
    · rw [if_pos h1, if_pos (.inl h1)]
    · rw [if_neg h1]
      by_cases h2 : n > 8
      · rw [if_pos h2, if_pos (.inr h2)]
      · rw [if_neg h2, if_neg (by omega)]
theorem same_ok (l : List Int) (h : l.length ≤ 1048576) : Evn (fun k => chicorylaw07_same.f k l 0 l 0) true := by
  refine Evn.congr (fun k => by unfold chicorylaw07_same.f; rw [if_pos rfl, if_pos rfl]) (Evn.bind (ints_same l h) (Evn.of fun _ => rfl))
theorem same_err (e : Int) (m : List Int) (h : ¬ e = 0) : Evn (fun k => chicorylaw07_same.f k [] e m e) true := by
  refine Evn.of fun k => ?_
  unfold chicorylaw07_same.f
  rw [if_neg h, if_pos (by rfl), beq_self_eq_true]
theorem DigitsTell : chicorylaw07_DigitsTell.Pure := by
  intro l0 a1 _ _ hw0 _
  have d0 := db_of hw0
  refine Evn.get (?_ : Evn (fun k => chicorylaw07_DigitsTell.f k l0 a1) true)
  by_cases h100 : 100 < l0.length
  · exact Evn.congr (fun k => by unfold chicorylaw07_DigitsTell.f; rw [if_pos (by omega)]) awake7_some
  · by_cases h1 : wr l0 a1 1 = 0
    · have hl : l0.length ≤ 64 := by unfold wr at h1; split at h1 <;> omega
      have hn : 1 ≤ a1 ∧ a1 ≤ 8 := by unfold wr at h1; rw [if_neg (by omega)] at h1; split at h1 <;> omega
      obtain ⟨b, rfl⟩ : ∃ b : Nat, a1 = (b : Int) := ⟨a1.toNat, by omega⟩
      have hc := cnt_le l0.length b (by omega) hl
      have lp : (plainL (vl 256 l0) b (cnt l0.length b)).length = cnt l0.length b := rowL_len _ _
      have lc : (colL (vl 256 l0) b (cnt l0.length b)).length = cnt l0.length b := rowL_len _ _
      have ep := plain_ev l0 d0 hl b (by omega) (by omega)
      have ec := cols_ev l0 d0 hl b (by omega) (by omega)
      have rp := rplain_ev l0 d0 hl b (by omega) (by omega)
      have rc := rcols_ev l0 d0 hl b (by omega) (by omega)
      have sp := same_ok (plainL (vl 256 l0) b (cnt l0.length b)) (by omega)
      have sc := same_ok (colL (vl 256 l0) b (cnt l0.length b)) (by omega)
      by_cases h2 : 2 ≤ b
      · have hw2 : wr l0 (b : Int) 2 = 0 := by unfold wr; rw [if_neg (by omega), if_neg (by omega)]
        have es := signed_ev l0 d0 hl b h2 (by omega)
        have en := naf_ev l0 d0 hl b h2 (by omega)
        have rs := rsigned_ev l0 d0 hl b h2 (by omega)
        have rn := rnaf_ev l0 d0 hl b h2 (by omega)
        have ss := same_ok (signedL (vl 256 l0) b (cnt l0.length b)) (by unfold signedL; rw [List.length_append, rowL_len]; simp; omega)
        have sn := same_ok (nafL (vl 256 l0) b (8 * l0.length + 1)) (by unfold nafL; rw [rowL_len]; omega)
        refine Evn.congr (fun k => by unfold chicorylaw07_DigitsTell.f; rw [if_neg (by omega), wrong_eval, wrong_eval, bsome', bsome', h1, hw2]) (Evn.bind ep (Evn.bind es (Evn.bind en (Evn.bind ec ?_))))
        refine Evn.congr (fun k => by rw [if_pos rfl]) (Evn.bind rp (Evn.bind sp ?_))
        refine Evn.congr (fun k => by rw [if_pos rfl]) (Evn.bind rc (Evn.bind sc ?_))
        refine Evn.succ (fun k => by rw [chicorylaw07_DigitsTell.j0, if_neg (by decide), if_pos rfl]) (Evn.bind rs (Evn.bind ss ?_))
        refine Evn.congr (fun k => by rw [if_pos rfl]) (Evn.bind rn (Evn.bind sn ?_))
        exact Evn.congr (fun k => by rw [if_pos rfl]) awake7_some
      · have hw2 : wr l0 (b : Int) 2 = 10 := by unfold wr; rw [if_neg (by omega), if_pos (by omega)]
        have es := signed_err l0 (b : Int) 10 (by rw [if_neg (by omega), if_pos (by omega)]) (by omega)
        have en := naf_err l0 (b : Int) 10 (by rw [if_neg (by omega), if_pos (by omega)]) (by omega)
        have ss := same_err 10 [] (by omega)
        refine Evn.congr (fun k => by unfold chicorylaw07_DigitsTell.f; rw [if_neg (by omega), wrong_eval, wrong_eval, bsome', bsome', h1, hw2]) (Evn.bind ep (Evn.bind es (Evn.bind en (Evn.bind ec ?_))))
        refine Evn.congr (fun k => by rw [if_pos rfl]) (Evn.bind rp (Evn.bind sp ?_))
        refine Evn.congr (fun k => by rw [if_pos rfl]) (Evn.bind rc (Evn.bind sc ?_))
        refine Evn.succ (fun k => by rw [chicorylaw07_DigitsTell.j0, if_neg (by decide), if_neg (by omega)]) (Evn.bind ss ?_)
        refine Evn.congr (fun k => by rw [if_pos rfl]) (Evn.bind ss ?_)
        exact Evn.congr (fun k => by rw [if_pos rfl]) awake7_some
    · have h2 : ¬ wr l0 a1 2 = 0 := by
        unfold wr at h1 ⊢
        by_cases hl : 64 < l0.length
        · rw [if_pos hl]; omega
        · rw [if_neg hl] at h1 ⊢
          split at h1
          · rw [if_pos (by omega)]; omega
          · omega
      have ep := plain_err l0 a1 (wr l0 a1 1) rfl h1
      have ec := cols_err l0 a1 (wr l0 a1 1) rfl h1
      have es := signed_err l0 a1 (wr l0 a1 2) rfl h2
      have en := naf_err l0 a1 (wr l0 a1 2) rfl h2
      have s1 := same_err (wr l0 a1 1) [] h1
      have s2 := same_err (wr l0 a1 2) [] h2
      refine Evn.congr (fun k => by unfold chicorylaw07_DigitsTell.f; rw [if_neg (by omega), wrong_eval, wrong_eval, bsome', bsome']) (Evn.bind ep (Evn.bind es (Evn.bind en (Evn.bind ec ?_))))
      refine Evn.congr (fun k => by rw [if_neg h1]) (Evn.bind s1 ?_)
      refine Evn.congr (fun k => by rw [if_pos rfl]) (Evn.bind s2 ?_)
      refine Evn.congr (fun k => by rw [if_pos rfl]) (Evn.bind s2 ?_)
      refine Evn.congr (fun k => by rw [if_pos rfl]) (Evn.bind s1 ?_)
      exact Evn.congr (fun k => by rw [if_pos rfl]) awake7_some
end Go.Proofs.Ytdaehflffecllaa.Pure
