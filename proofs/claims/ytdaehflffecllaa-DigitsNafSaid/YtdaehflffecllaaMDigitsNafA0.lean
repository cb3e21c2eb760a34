/- The law DigitsNaf returns true whatever the input: A0 of its proof; no condition. (Joined by wip/shake.py.) -/
import Derived.Test.YtdaehflffecllaaMDigitsNafN0
import Derived.Test.YtdaehflffecllaaMDigitsNafT1
import Derived.Test.YtdaehflffecllaaMDigitsNafB0
import Derived.Laws.BitsLemmas
import Derived.Test.YtdaehflffecllaaMDigitsNafN1
import Derived.Test.YtdaehflffecllaaMDigitsNafN2
import Derived.Lib.BitFns
import Derived.Lib.Mul64
import Derived.Test.YtdaehflffecllaaMDigitsNafE0
namespace Go.Proofs.Ytdaehflffecllaa.A
open Go.RowKit Go.Proofs.YtdaehflffecllaaW.PrintWords Go.Proofs.Ytdaehflffecllaa.N Go.Proofs.Ytdaehflffecllaa.T
theorem check_ev (l : List Int) (m n : Int) (k0 : Int) : k0 = (if 64 < l.length then 11 else if n < m ∨ 8 < n then 10 else 0) → Evn (fun k => digits_check.f k l m [n]) k0 := by
  intro h
  subst h
  by_cases h1 : 64 < l.length
  · refine Evn.of fun k => ?_
    unfold digits_check.f
    rw [if_pos (by omega), if_pos h1]
  · refine Evn.congr (h := fun k => digits_check.l0 k m [n] 1 0) (fun k => by unfold digits_check.f; rw [if_neg (by omega)]; rfl) ?_
    have hr : rd [n] 0 = n := rfl
    rw [if_neg h1]
    by_cases h2 : n < m
    · rw [if_pos (.inl h2)]
      refine Evn.succ (h := fun _ => some 10) (fun k => ?_) (Evn.of fun _ => rfl)
      rw [digits_check.l0, if_pos (by omega), if_pos (by omega), if_pos (by simp), hr, if_pos h2]
    · by_cases h3 : 8 < n
      · rw [if_pos (.inr h3)]
        refine Evn.succ (h := fun _ => some 10) (fun k => ?_) (Evn.of fun _ => rfl)
        rw [digits_check.l0, if_pos (by omega), if_pos (by omega), if_pos (by simp), hr, if_neg h2, if_pos h3]
      · rw [if_neg (by omega)]
        refine Evn.succ (h := fun k => digits_check.l0 k m [n] 1 1) (fun k => ?_) (Evn.succ (h := fun _ => some 0) (fun k => ?_) (Evn.of fun _ => rfl))
        · rw [digits_check.l0, if_pos (by omega), if_pos (by omega), if_pos (by simp), hr, if_neg h2, if_neg h3, w64 ((0 : Int) + 1) (by omega) (by omega)]; rfl
        · rw [digits_check.l0, if_neg (by omega)]
theorem and_u8 (x : Int) (h0 : 0 ≤ x) (h1 : x < 256) : Go.bits .and .u8 x 1 = x % 2 := by
  obtain ⟨a, rfl⟩ := Int.eq_ofNat_of_zero_le h0
  have := (bits_nat .u8 8 (by decide) (fun n h0 h1 => by rw [IntKind.wrap_u8]; omega) a 1 (by omega) (by omega)).1
  rw [Nat.and_one_is_mod] at this
  rw [show ((1 : Nat) : Int) = 1 from rfl] at this
  rw [this, Int.natCast_emod]; rfl
theorem or_i64 (x y : Int) (s : Nat) (hx : 0 ≤ x) (hx1 : x < 9223372036854775808) (hy : 0 ≤ y) (hy1 : y < 2 ^ s) (hy2 : y < 9223372036854775808) (hd : x % 2 ^ s = 0) : Go.bits .or .i64 y x = y + x := by
  have h := or_add x y s hx (by omega) hy hy1 (by omega) hd
  have h' := or_comm' x y hx (by omega) hy (by omega)
  rw [h] at h'
  obtain ⟨a, rfl⟩ := Int.eq_ofNat_of_zero_le hx
  obtain ⟨b, rfl⟩ := Int.eq_ofNat_of_zero_le hy
  have h1 := (bits_nat .i64 63 (by decide) (fun n h0 h1 => by rw [IntKind.wrap_i64]; omega) b a (by omega) (by omega)).2
  rw [bits_or_u64_nat b a (by omega) (by omega)] at h'
  rw [h1, ← h']; omega
theorem shl_i64 (t : Int) (n : Nat) (hn : n ≤ 64) (h0 : -9223372036854775808 ≤ t * 2 ^ n) (h1 : t * 2 ^ n ≤ 9223372036854775807) : shl .i64 t (n : Int) = t * 2 ^ n := by
  unfold shl
  rw [show IntKind.i64.bits = 64 from rfl, Int.toNat_natCast, Nat.min_eq_left hn, IntKind.wrap_i64]; omega
theorem shr_i64 (x : Int) (n : Nat) (hn : n ≤ 64) : shr .i64 x (n : Int) = x / 2 ^ n := by
  unfold shr
  rw [show IntKind.i64.bits = 64 from rfl, Int.toNat_natCast, Nat.min_eq_left hn]
theorem shr_u8 (x : Int) (n : Nat) (hn : n ≤ 8) : shr .u8 x (n : Int) = x / 2 ^ n := by
  unfold shr
  rw [show IntKind.u8.bits = 8 from rfl, Int.toNat_natCast, Nat.min_eq_left hn]
theorem bit_beyond {n : Int} {m i : Nat} (h0 : 0 ≤ n) (h : n < 2 ^ m) (hi : m ≤ i) : bitv n (i : Int) = 0 := by
  rw [bitv_nat]
  have h1 : (2 : Int) ^ m ≤ 2 ^ i := pow_le (by omega) hi
  rw [Int.ediv_eq_zero_of_lt h0 (by omega)]; rfl
theorem reader_eval (l : List Int) (h : dg 256 l) (hl : l.length ≤ 1048576) (i : Nat) (hi : i ≤ 9223372036854775807) : digits_reader1.f (i : Int) l = some (bitv (vl 256 l) (i : Int)) := by
  have t1 := tdiv_nat i 8
  have t2 := tmod_nat i 8
  rw [show ((8 : Nat) : Int) = 8 from rfl] at t1 t2
  have n0 := vl_nonneg h C0
  unfold digits_reader1.f
  rw [w64 (8 * (l.length : Int)) (by omega) (by omega)]
  by_cases hb : 8 * l.length ≤ i
  · rw [if_pos (by omega)]
    have hlt := vl_lt h C0
    rw [bit_beyond n0 (m := 8 * l.length) (by rw [Int.pow_mul]; exact hlt) hb]
  · have hr := rd_bd h C0 (i / 8)
    have hd : rd l ((i / 8 : Nat) : Int) / 2 ^ (i % 8) % 2 = bitv (vl 256 l) (i : Int) := by
      rw [rd_vl h C0, bitv_nat]
      have := digit_bit (vl 256 l) 8 (i / 8) (i % 8) (by omega)
      rw [show (2 : Int) ^ 8 = 256 from rfl, show 8 * (i / 8) + i % 8 = i by omega] at this
      exact this
    have q0 : 0 ≤ rd l ((i / 8 : Nat) : Int) / 2 ^ (i % 8) := ediv_nn hr.1 (Int.le_of_lt (two_pos _))
    have q1 : rd l ((i / 8 : Nat) : Int) / 2 ^ (i % 8) ≤ rd l ((i / 8 : Nat) : Int) := ediv_le_self' hr.1
    have hbb := bitv_bd (vl 256 l) (i : Int)
    rw [if_neg (by omega), t1, t2, w64 ((i / 8 : Nat) : Int) (by omega) (by omega), if_pos (by omega), if_pos (by omega), if_pos (by omega), shr_u8 _ _ (by omega), and_u8 _ q0 (by omega), hd, w64 _ (by omega) (by omega)]
/-- The bits from a place on, with a step between. -/
def win (N : Int) (f s : Nat) : Nat → Int
  | 0 => 0
  | m + 1 => win N f s m + 2 ^ m * bitv N ((f + m * s : Nat) : Int)
theorem win_bd (N : Int) (f s : Nat) : ∀ m, 0 ≤ win N f s m ∧ win N f s m < 2 ^ m
  | 0 => by simp [win]
  | m + 1 => by
    have h := win_bd N f s m
    have hb := bitv_bd N ((f + m * s : Nat) : Int)
    have hp := two_pos m
    have e : (2 : Int) ^ (m + 1) = 2 ^ m * 2 := Int.pow_succ ..
    unfold win
    rcases (show bitv N ((f + m * s : Nat) : Int) = 0 ∨ bitv N ((f + m * s : Nat) : Int) = 1 by omega) with h1 | h1 <;> rw [h1] <;> omega
/-- Bits without a step: what is left of the number there. -/
theorem win_one (N : Int) (f : Nat) : ∀ m, win N f 1 m = N / 2 ^ f % 2 ^ m
  | 0 => by simp [win, Int.emod_one]
  | m + 1 => by
    have h := win_one N f m
    unfold win
    rw [h, bitv_nat, show f + m * 1 = f + m by omega, Int.pow_add, ← Int.ediv_ediv_of_nonneg (Int.le_of_lt (two_pos f))]
    have e : (2 : Int) ^ (m + 1) = 2 ^ m * 2 := Int.pow_succ ..
    rw [e]
    have e1 := Int.emod_add_mul_ediv (N / 2 ^ f) (2 ^ m)
    have e2 := Int.emod_add_mul_ediv (N / 2 ^ f / 2 ^ m) 2
    have b1 := Int.emod_lt_of_pos (N / 2 ^ f) (two_pos m)
    have b0 := Int.emod_nonneg (N / 2 ^ f) (show (2 : Int) ^ m ≠ 0 by have := two_pos m; omega)
    have c1 := Int.emod_lt_of_pos (N / 2 ^ f / 2 ^ m) (show (0 : Int) < 2 by omega)
    have c0 := Int.emod_nonneg (N / 2 ^ f / 2 ^ m) (show (2 : Int) ≠ 0 by omega)
    refine (mod_of (q := N / 2 ^ f / 2 ^ m / 2) ?_ ?_ ?_).symm
    · grind
    · have : 0 ≤ 2 ^ m * (N / 2 ^ f / 2 ^ m % 2) := Int.mul_nonneg (Int.le_of_lt (two_pos m)) c0
      omega
    · have hp := two_pos m
      rcases (show N / 2 ^ f / 2 ^ m % 2 = 0 ∨ N / 2 ^ f / 2 ^ m % 2 = 1 by omega) with h1 | h1 <;> rw [h1] <;> omega
theorem window_loop (l : List Int) (h : dg 256 l) (hl : l.length ≤ 1048576) (f s n : Nat) (hn : n ≤ 62) (hfs : f ≤ 1099511627776) (hs : s ≤ 1099511627776) : ∀ (d i : Nat), i + d = n →
    Evn (fun k => digits_window.l0 k l (f : Int) (s : Int) (win (vl 256 l) f s i) (n : Int) (i : Int)) (win (vl 256 l) f s n) := by
  intro d
  induction d with
  | zero =>
    intro i hi
    obtain rfl : i = n := by omega
    exact Evn.succ (h := fun _ => some (win (vl 256 l) f s i)) (fun k => by rw [digits_window.l0, if_neg (by omega)]) (Evn.of fun _ => rfl)
  | succ d ih =>
    intro i hi
    have hm : i * s ≤ 62 * 1099511627776 := Nat.mul_le_mul (by omega) hs
    have hmi : (i : Int) * (s : Int) = ((i * s : Nat) : Int) := (Int.natCast_mul i s).symm
    have hw := win_bd (vl 256 l) f s i
    have hb := bitv_bd (vl 256 l) ((f + i * s : Nat) : Int)
    have hp := two_pos i
    have hp2 : (2 : Int) ^ i ≤ 2 ^ 61 := pow_le (by omega) (by omega)
    rw [show (2 : Int) ^ 61 = 2305843009213693952 from rfl] at hp2
    have y0 : 0 ≤ bitv (vl 256 l) ((f + i * s : Nat) : Int) * 2 ^ i := Int.mul_nonneg hb.1 (Int.le_of_lt hp)
    have y1 : bitv (vl 256 l) ((f + i * s : Nat) : Int) * 2 ^ i ≤ 2 ^ i := by
      rcases (show bitv (vl 256 l) ((f + i * s : Nat) : Int) = 0 ∨ bitv (vl 256 l) ((f + i * s : Nat) : Int) = 1 by omega) with h1 | h1 <;> rw [h1] <;> omega
    have hor := or_i64 (bitv (vl 256 l) ((f + i * s : Nat) : Int) * 2 ^ i) (win (vl 256 l) f s i) i y0 (by omega) hw.1 hw.2 (by omega) (Int.mul_emod_left _ _)
    refine Evn.succ (fun k => ?_) (ih (i + 1) (by omega))
    rw [digits_window.l0, if_pos (by omega), hmi, w64 ((i * s : Nat) : Int) (by omega) (by omega), show (f : Int) + ((i * s : Nat) : Int) = ((f + i * s : Nat) : Int) by omega, w64 ((f + i * s : Nat) : Int) (by omega) (by omega), reader_eval l h hl _ (by omega), Option.bind_some, if_pos (by omega), shl_i64 _ _ (by omega) (by omega) (by omega), hor, w64 ((i : Int) + 1) (by omega) (by omega)]
    rw [show win (vl 256 l) f s (i + 1) = win (vl 256 l) f s i + 2 ^ i * bitv (vl 256 l) ((f + i * s : Nat) : Int) from rfl, Int.mul_comm (2 ^ i)]; rfl
theorem window_ev (l : List Int) (h : dg 256 l) (hl : l.length ≤ 1048576) (f s n : Nat) (hn : n ≤ 62) (hf : f ≤ 1099511627776) (hs : s ≤ 1099511627776) : Evn (fun k => digits_window.f k l (f : Int) (s : Int) (n : Int)) (win (vl 256 l) f s n) :=
  window_loop l h hl f s n hn hf hs n 0 (by omega)
end Go.Proofs.Ytdaehflffecllaa.A
namespace Go.Proofs.Ytdaehflffecllaa.A
open Go.RowKit Go.Proofs.YtdaehflffecllaaW.PrintWords Go.Proofs.Ytdaehflffecllaa.N Go.Proofs.Ytdaehflffecllaa.T
theorem bsome' {α β : Type} (a : α) (f : α → Option β) : (some a).bind f = f a := by cases h : f a <;> simp [h]
def rowL (g : Nat → Int) (n : Nat) : List Int := (List.range n).map g
theorem rowL_len (g : Nat → Int) (n : Nat) : (rowL g n).length = n := by simp [rowL]
theorem rowL_rd (g : Nat → Int) (n i : Nat) (h : i < n) : rd (rowL g n) (i : Int) = g i := by
  rw [rd_get _ _ (by rw [rowL_len]; exact h)]; simp [rowL]
theorem rowL_ext (l : List Int) (g : Nat → Int) (n : Nat) (hl : l.length = n) (h : ∀ i, i < n → rd l (i : Int) = g i) : rowL g n = l := by
  apply List.ext_getElem (by rw [rowL_len, hl])
  intro i h1 h2
  have := h i (by omega)
  rw [rd_get _ _ h2] at this
  simp [rowL, this]
theorem Evn.of_mono {α : Type} {g : Nat → Option α} {r : α} (K : Nat) (hm : ∀ k, LeO (g k) (g (k + 1))) (h : g K = some r) : Evn g r := by
  refine ⟨K, fun k hk => ?_⟩
  induction k with
  | zero => rw [show K = 0 by omega] at h; exact h
  | succ k ih =>
    by_cases e : K = k + 1
    · rw [← e]; exact h
    · exact hm k r (ih (by omega))
theorem awake7_ev : Evn (fun k => chicorylaw07_awake.f k) true := Evn.of_mono 16 chicorylaw07_awake.mono (by kernel_rfl)
theorem awake7_some : Evn (fun k => (chicorylaw07_awake.f k).bind fun t => some t) true := Evn.bind awake7_ev (Evn.of fun _ => rfl)
theorem db_of {l : List Int} (h : ∀ x ∈ l, (Lit.int .u8 x).wf = true) : dg 256 l := fun x hx => by
  have := h x hx
  simp [Lit.wf, IntKind.min, IntKind.max, IntKind.signed, IntKind.bits] at this
  omega
end Go.Proofs.Ytdaehflffecllaa.A
namespace Go.Proofs.Ytdaehflffecllaa.A
open Go.RowKit Go.Proofs.YtdaehflffecllaaW.PrintWords Go.Proofs.Ytdaehflffecllaa.N Go.Proofs.Ytdaehflffecllaa.T
theorem B2 : (2 : Int) ≤ 18446744073709551616 := by omega
theorem B0 : (0 : Int) < 18446744073709551616 := by omega
theorem at_nn (l : List Int) (i : Nat) : number_Nat_at.f l (i : Int) = some (rd l (i : Int)) := by
  unfold number_Nat_at.f
  rw [if_neg (by omega)]
  by_cases h : (i : Int) ≥ (l.length : Int)
  · rw [if_pos h, rd_beyond l i (by omega)]
  · rw [if_neg h, if_pos (by omega), if_pos (by omega)]
theorem at_neg (l : List Int) (i : Int) (h : i < 0) : number_Nat_at.f l i = some 0 := by unfold number_Nat_at.f; rw [if_pos h]
theorem cmp_ev (x y : Int) : cmp_Compare_uint64.f x y = some (cmpI x y) := by
  unfold cmp_Compare_uint64.f cmp_isNaN_uint64.f cmpI
  simp only [bne_self_eq_false, Option.bind_some, gt_iff_lt]
  rw [if_neg (by decide), if_neg (by decide)]
  split
  · rfl
  · split <;> rfl
theorem compare_loop (a b : List Int) (ha : dg 18446744073709551616 a) (hb : dg 18446744073709551616 b) : ∀ m : Nat, m ≤ 9223372036854775807 → vl 18446744073709551616 (a.drop m) = vl 18446744073709551616 (b.drop m) → Evn (fun k => number_Compare.l0 k a b ((m : Int) - 1)) (cmpI (vl 18446744073709551616 a) (vl 18446744073709551616 b)) := by
  intro m
  induction m with
  | zero =>
    intro _ h
    refine Evn.succ (h := fun _ => some 0) (fun k => by rw [number_Compare.l0, if_neg (by omega)]) (Evn.of fun _ => ?_)
    simp only [List.drop_zero] at h
    rw [h, cmpI_self]
  | succ m ih =>
    intro hm h
    have e1 := vl_drop (B := 18446744073709551616) a m
    have e2 := vl_drop (B := 18446744073709551616) b m
    have e0 : ((m + 1 : Nat) : Int) - 1 = (m : Int) := by omega
    by_cases he : rd a (m : Int) = rd b (m : Int)
    · refine Evn.succ (fun k => ?_) (ih (by omega) (by rw [e1, e2, he, h]))
      rw [number_Compare.l0, if_pos (by omega), e0, at_nn, at_nn]
      simp only [Option.bind_some]
      rw [cmp_ev]
      simp only [Option.bind_some]
      rw [if_pos (cmpI_zero.2 he), w64 _ (by omega) (by omega)]
    · rw [← vl_div ha B0] at e1
      rw [← vl_div hb B0] at e2
      rw [cmpI_div (pow_pos B0 m) e1 (by rw [e2, h]) he]
      refine Evn.succ (h := fun _ => some (cmpI (rd a (m : Int)) (rd b (m : Int)))) (fun k => ?_) (Evn.of fun _ => rfl)
      rw [number_Compare.l0, if_pos (by omega), e0, at_nn, at_nn]
      simp only [Option.bind_some]
      rw [cmp_ev]
      simp only [Option.bind_some]
      rw [if_neg (fun e => he (cmpI_zero.1 e))]
theorem mx_nat (a b : Nat) : mx (a : Int) (b : Int) = ((max a b : Nat) : Int) := by unfold mx; split <;> omega
theorem compare_ev (a b : List Int) (ha : dg 18446744073709551616 a) (hb : dg 18446744073709551616 b) (hal : a.length ≤ 1099511627776) (hbl : b.length ≤ 1099511627776) : Evn (fun k => number_Compare.f k a b) (cmpI (vl 18446744073709551616 a) (vl 18446744073709551616 b)) := by
  refine Evn.congr (fun k => by unfold number_Compare.f; rw [mx_nat, w64 _ (by omega) (by omega)]) (compare_loop a b ha hb (max a.length b.length) (by omega) ?_)
  rw [List.drop_eq_nil_of_le (by omega), List.drop_eq_nil_of_le (by omega)]
theorem add64_eval (x y c : Int) (hx : 0 ≤ x) (hy : 0 ≤ y) (hc : 0 ≤ c) (hc1 : c ≤ 1) : bits_Add64.f x y c = some ((x + y + c) % 18446744073709551616, (x + y + c) / 18446744073709551616) := by
  unfold bits_Add64.f; rw [if_pos ⟨hx, hy, hc, hc1⟩]
theorem add_loop (a b : List Int) (ha : dg 18446744073709551616 a) (hb : dg 18446744073709551616 b) (n : Nat) (hn : n ≤ 1099511627776) : ∀ (d i : Nat) (out : List Int) (c : Int), i + d = n → out.length = n → 0 ≤ c → c ≤ 1 → dg 18446744073709551616 (out.take i) →
    vl 18446744073709551616 (out.take i) + 18446744073709551616 ^ i * c = vl 18446744073709551616 (a.take i) + vl 18446744073709551616 (b.take i) →
    ∃ (o : List Int) (c' : Int), o.length = n ∧ dg 18446744073709551616 o ∧ 0 ≤ c' ∧ vl 18446744073709551616 o + 18446744073709551616 ^ n * c' = vl 18446744073709551616 (a.take n) + vl 18446744073709551616 (b.take n) ∧ Evn (fun k => number_Add.l0 k a b out c n i) (cutL o) := by
  intro d
  induction d with
  | zero =>
    intro i out c hi ho hc _ hd h
    obtain rfl : i = n := by omega
    have ht : out.take i = out := by rw [← ho]; exact List.take_length
    rw [ht] at hd h
    refine ⟨out, c, ho, hd, hc, h, ?_⟩
    exact Evn.succ (fun k => by rw [number_Add.l0, if_neg (by omega)]; rfl) (Evn.of fun _ => rfl)
  | succ d ih =>
    intro i out c hi ho hc hc1 hd h
    have ra := rd_bd ha B0 i
    have rb := rd_bd hb B0 i
    have hs0 : 0 ≤ (rd a (i : Int) + rd b (i : Int) + c) % 18446744073709551616 := by omega
    have hs1 : (rd a (i : Int) + rd b (i : Int) + c) % 18446744073709551616 < 18446744073709551616 := by omega
    obtain ⟨o, c', h1, h2, h3, h4, h5⟩ := ih (i + 1) (out.set i ((rd a (i : Int) + rd b (i : Int) + c) % 18446744073709551616)) ((rd a (i : Int) + rd b (i : Int) + c) / 18446744073709551616) (by omega) (by rw [List.length_set]; exact ho) (by omega) (by omega)
      (dg_set_take hd (by omega) hs0 hs1) (by
        rw [vl_set_take _ _ _ (by omega), vl_take_succ, vl_take_succ, Int.pow_succ]
        have e := Int.emod_add_mul_ediv (rd a (i : Int) + rd b (i : Int) + c) 18446744073709551616
        generalize (rd a (i : Int) + rd b (i : Int) + c) % 18446744073709551616 = s at *
        generalize (rd a (i : Int) + rd b (i : Int) + c) / 18446744073709551616 = q at *
        generalize (18446744073709551616 : Int) ^ i = p at *
        grind)
    refine ⟨o, c', h1, h2, h3, h4, Evn.succ (fun k => ?_) h5⟩
    simp only [number_Add.l0]
    rw [if_pos (by omega), at_nn, at_nn]
    simp only [Option.bind_some]
    rw [add64_eval _ _ _ ra.1 rb.1 hc hc1]
    simp only [Option.bind_some]
    rw [if_pos (by omega), if_pos (by omega), Int.toNat_natCast, w64 _ (by omega) (by omega)]
    rfl
theorem take_all (l : List Int) (n : Nat) (h : l.length ≤ n) : l.take n = l := List.take_of_length_le h
theorem add_ev (a b : List Int) (ha : dg 18446744073709551616 a) (hb : dg 18446744073709551616 b) (hal : a.length ≤ 1073741824) (hbl : b.length ≤ 1073741824) : Evn (fun k => number_Add.f k a b) (dgs 18446744073709551616 (vl 18446744073709551616 a + vl 18446744073709551616 b)) := by
  obtain ⟨o, c', h1, h2, h3, h4, h5⟩ := add_loop a b ha hb (max a.length b.length + 1) (by omega) (max a.length b.length + 1) 0 (List.replicate (max a.length b.length + 1) 0) 0 (by omega) (by simp) (by omega) (by omega) (by simp; exact dg_nil) (by simp [vl])
  rw [take_all a _ (by omega), take_all b _ (by omega)] at h4
  have hav := vl_lt ha B0
  have hbv := vl_lt hb B0
  have p1 := pow_le B0 (show a.length ≤ max a.length b.length by omega)
  have p2 := pow_le B0 (show b.length ≤ max a.length b.length by omega)
  have hp := pow_pos B0 (max a.length b.length)
  have ho := vl_nonneg h2 B0
  have hc : c' = 0 := by
    rw [Int.pow_succ] at h4
    generalize (18446744073709551616 : Int) ^ max a.length b.length = p at *
    by_cases hz : c' = 0
    · exact hz
    · have := Int.mul_le_mul_of_nonneg_left (show 1 ≤ c' by omega) (show 0 ≤ p * 18446744073709551616 by omega)
      omega
  rw [hc] at h4
  rw [← cut_eq B2 h2 (show vl 18446744073709551616 o = vl 18446744073709551616 a + vl 18446744073709551616 b by omega)]
  refine Evn.congr (fun k => ?_) h5
  unfold number_Add.f
  rw [mx_nat, w64 _ (by omega) (by omega), if_pos (by omega), if_pos (by omega)]
  simp only [Option.bind_some, List.length_replicate]
  rw [show ((max a.length b.length : Nat) : Int) + 1 = ((max a.length b.length + 1 : Nat) : Int) by omega, Int.toNat_natCast]
  rfl
end Go.Proofs.Ytdaehflffecllaa.A
namespace Go.Proofs.Ytdaehflffecllaa.A
open Go.RowKit Go.Proofs.YtdaehflffecllaaW.PrintWords Go.Proofs.Ytdaehflffecllaa.N Go.Proofs.Ytdaehflffecllaa.T
/-- A number whose bits go up, or down. -/
def shv (n b : Int) : Int := if 0 ≤ b then n * 2 ^ b.toNat else n / 2 ^ (-b).toNat
/-- A word; 0: there is none. -/
def atz (l : List Int) (z : Int) : Int := if z < 0 then 0 else rd l z
theorem at_z (l : List Int) (z : Int) : number_Nat_at.f l z = some (atz l z) := by
  unfold atz
  by_cases h : z < 0
  · rw [at_neg l z h, if_pos h]
  · obtain ⟨i, rfl⟩ := Int.eq_ofNat_of_zero_le (show 0 ≤ z by omega)
    rw [at_nn, if_neg h]
theorem mod_succ (R B p : Int) (hp : 0 < p) : R % (p * B) = R % p + p * (R / p % B) := by
  have e1 := Int.emod_add_mul_ediv R (p * B)
  have e2 := Int.emod_add_mul_ediv R p
  have e3 := Int.emod_add_mul_ediv (R / p) B
  rw [← Int.ediv_ediv_of_nonneg (Int.le_of_lt hp)] at e1
  grind
theorem bw2 : (18446744073709551616 : Int) = 2 ^ 64 := rfl
/-- A digit of a number whose bits went up less than a word. -/
theorem digit_up (l : List Int) (h : dg 18446744073709551616 l) (up : Nat) (hu : up < 64) (j : Nat) :
    vl 18446744073709551616 l * 2 ^ up / 18446744073709551616 ^ j % 18446744073709551616 = rd l (j : Int) * 2 ^ up % 18446744073709551616 + (if j = 0 then 0 else rd l ((j - 1 : Nat) : Int) / 2 ^ (64 - up)) := by
  have hp := pow_pos B0 j
  have hu2 := two_pos up
  have hs := vl_split (B := 18446744073709551616) l j
  have ht := vl_take_bd h B0 j
  have hd := vl_drop (B := 18446744073709551616) l j
  have hr := rd_bd h B0 j
  -- what goes beyond the lower digits
  have key : ∃ e : Int, 0 ≤ e ∧ e < 2 ^ up ∧ vl 18446744073709551616 (l.take j) * 2 ^ up / 18446744073709551616 ^ j = e ∧ e = (if j = 0 then 0 else rd l ((j - 1 : Nat) : Int) / 2 ^ (64 - up)) := by
    by_cases hj : j = 0
    · subst hj
      refine ⟨0, by omega, hu2, by simp [vl], by rw [if_pos rfl]⟩
    · obtain ⟨i, rfl⟩ : ∃ i, j = i + 1 := ⟨j - 1, by omega⟩
      have hri := rd_bd h B0 i
      have hv2 := two_pos (64 - up)
      have hsp : (18446744073709551616 : Int) = 2 ^ up * 2 ^ (64 - up) := by rw [bw2, ← Int.pow_add]; congr 1; omega
      have hpi := pow_pos B0 i
      have hti := vl_take_bd h B0 i
      refine ⟨rd l (i : Int) / 2 ^ (64 - up), ediv_nn hri.1 (Int.le_of_lt hv2), ?_, ?_, by rw [if_neg (by omega)]; rfl⟩
      · exact Int.ediv_lt_of_lt_mul hv2 (by rw [← hsp]; exact hri.2)
      · have e1 : (18446744073709551616 : Int) ^ (i + 1) = 18446744073709551616 ^ i * 2 ^ (64 - up) * 2 ^ up := by rw [Int.pow_succ, Int.mul_assoc, Int.mul_comm (2 ^ (64 - up)), ← hsp]
        rw [e1, Int.mul_ediv_mul_of_pos_left _ _ hu2, ← Int.ediv_ediv_of_nonneg (Int.le_of_lt hpi), vl_take_succ]
        rw [div_of (r := vl 18446744073709551616 (l.take i)) rfl hti.1 hti.2]
  obtain ⟨e, he0, he1, he2, he3⟩ := key
  rw [← he3]
  have e4 : vl 18446744073709551616 l * 2 ^ up / 18446744073709551616 ^ j = e + vl 18446744073709551616 (l.drop j) * 2 ^ up := by
    rw [hs, Int.add_mul, Int.mul_assoc, Int.add_mul_ediv_left _ _ (by omega), he2]
  rw [e4, hd]
  -- the lower part is a multiple of 2^up
  have hsp : (18446744073709551616 : Int) = 2 ^ up * 2 ^ (64 - up) := by rw [bw2, ← Int.pow_add]; congr 1; omega
  have m1 : rd l (j : Int) * 2 ^ up % 18446744073709551616 = 2 ^ up * (rd l (j : Int) % 2 ^ (64 - up)) := by
    rw [Int.mul_comm (rd l (j : Int))]; conv => lhs; rw [hsp]
    rw [Int.mul_emod_mul_of_pos _ _ hu2]
  have m2 := Int.emod_add_mul_ediv (rd l (j : Int) * 2 ^ up) 18446744073709551616
  have m3 := Int.emod_lt_of_pos (rd l (j : Int)) (two_pos (64 - up))
  have m4 := Int.emod_nonneg (rd l (j : Int)) (show (2 : Int) ^ (64 - up) ≠ 0 by have := two_pos (64 - up); omega)
  have m5 : 2 ^ up * (rd l (j : Int) % 2 ^ (64 - up) + 1) ≤ 2 ^ up * 2 ^ (64 - up) := Int.mul_le_mul_of_nonneg_left (by omega) (Int.le_of_lt hu2)
  rw [← hsp, Int.mul_add] at m5
  have m6 := Int.mul_nonneg (Int.le_of_lt hu2) m4
  rw [← m1] at m5 m6
  refine mod_of (q := rd l (j : Int) * 2 ^ up / 18446744073709551616 + vl 18446744073709551616 (l.drop (j + 1)) * 2 ^ up) ?_ (by omega) (by omega)
  grind
/-- The digit as the code makes it. -/
theorem digit_or (l : List Int) (h : dg 18446744073709551616 l) (up : Nat) (hu : up < 64) (z : Int) :
    Go.bits .or .u64 (shl .u64 (atz l z) (up : Int)) (shr .u64 (atz l (z - 1)) ((64 - up : Nat) : Int)) = (if z < 0 then 0 else vl 18446744073709551616 l * 2 ^ up / 18446744073709551616 ^ z.toNat % 18446744073709551616) := by
  rw [shl_eq _ _ (by omega), shr_eq _ _ (by omega)]
  have hu2 := two_pos up
  have hv2 := two_pos (64 - up)
  by_cases hz : z < 0
  · rw [if_pos hz]
    unfold atz
    rw [if_pos hz, if_pos (by omega)]
    simp
    decide
  · rw [if_neg hz]
    obtain ⟨j, rfl⟩ := Int.eq_ofNat_of_zero_le (show 0 ≤ z by omega)
    rw [Int.toNat_natCast, digit_up l h up hu j]
    have hr := rd_bd h B0 j
    have hsp : (18446744073709551616 : Int) = 2 ^ up * 2 ^ (64 - up) := by rw [bw2, ← Int.pow_add]; congr 1; omega
    have e1 : atz l (j : Int) = rd l (j : Int) := by unfold atz; rw [if_neg hz]
    have e2 : atz l ((j : Int) - 1) / 2 ^ (64 - up) = (if j = 0 then 0 else rd l ((j - 1 : Nat) : Int) / 2 ^ (64 - up)) := by
      unfold atz
      by_cases h0 : j = 0
      · subst h0; rw [if_pos (by omega), if_pos rfl]; simp
      · rw [if_neg (by omega), if_neg h0, show (j : Int) - 1 = ((j - 1 : Nat) : Int) by omega]
    have e3 : 0 ≤ (if j = 0 then 0 else rd l ((j - 1 : Nat) : Int) / 2 ^ (64 - up)) ∧ (if j = 0 then 0 else rd l ((j - 1 : Nat) : Int) / 2 ^ (64 - up)) < 2 ^ up := by
      by_cases h0 : j = 0
      · rw [if_pos h0]; omega
      · have hri := rd_bd h B0 (j - 1)
        rw [if_neg h0]
        exact ⟨ediv_nn hri.1 (Int.le_of_lt hv2), Int.ediv_lt_of_lt_mul hv2 (by rw [← hsp]; exact hri.2)⟩
    have hub : (2 : Int) ^ up ≤ 18446744073709551616 := by rw [bw2]; exact pow_le (by omega) (by omega)
    rw [e1, e2]
    refine or_add _ _ up (Int.emod_nonneg _ (by omega)) (Int.emod_lt_of_pos _ B0) e3.1 e3.2 (by omega) ?_
    have m1 : rd l (j : Int) * 2 ^ up % 18446744073709551616 = 2 ^ up * (rd l (j : Int) % 2 ^ (64 - up)) := by
      rw [Int.mul_comm (rd l (j : Int))]; conv => lhs; rw [hsp]
      rw [Int.mul_emod_mul_of_pos _ _ hu2]
    rw [m1, Int.mul_emod_right]
/-- A digit of the whole, by the place less the words. -/
theorem shv_digit (n w : Int) (up : Nat) (hu : up < 64) (i : Nat) :
    shv n (64 * w + up) / 18446744073709551616 ^ i % 18446744073709551616 = (if (i : Int) - w < 0 then 0 else n * 2 ^ up / 18446744073709551616 ^ ((i : Int) - w).toNat % 18446744073709551616) := by
  unfold shv
  have hi := pow_pos B0 i
  by_cases hw : 0 ≤ w
  · obtain ⟨t, rfl⟩ := Int.eq_ofNat_of_zero_le hw
    rw [if_pos (by omega), show (64 * (t : Int) + (up : Int)).toNat = up + 64 * t by omega, Int.pow_add, ← Int.mul_assoc, Int.pow_mul, ← bw2]
    by_cases hlt : (i : Int) - (t : Int) < 0
    · rw [if_pos hlt]
      obtain ⟨d, rfl⟩ : ∃ d, t = i + (d + 1) := ⟨t - i - 1, by omega⟩
      rw [Int.pow_add, ← Int.mul_assoc, Int.mul_right_comm _ _ (18446744073709551616 ^ (d + 1)), Int.mul_ediv_cancel _ (by omega), Int.pow_succ, ← Int.mul_assoc, Int.mul_emod_left]
    · rw [if_neg hlt]
      obtain ⟨d, rfl⟩ : ∃ d, i = d + t := ⟨i - t, by omega⟩
      rw [show (((d + t : Nat) : Int) - (t : Int)).toNat = d by omega, Int.pow_add, Int.mul_ediv_mul_of_pos_left _ _ (pow_pos B0 t)]
  · obtain ⟨t, ht⟩ : ∃ t : Nat, w = -((t : Int) + 1) := ⟨(-w - 1).toNat, by omega⟩
    have hneg : ¬ 0 ≤ 64 * w + (up : Int) := by omega
    rw [if_neg hneg, if_neg (by omega), show ((i : Int) - w).toNat = i + (t + 1) by omega]
    have e0 : (18446744073709551616 : Int) ^ (t + 1) = 2 ^ (-(64 * w + (up : Int))).toNat * 2 ^ up := by
      rw [bw2, ← Int.pow_mul, ← Int.pow_add]; congr 1; omega
    have e1 : (18446744073709551616 : Int) ^ (i + (t + 1)) = 2 ^ (-(64 * w + (up : Int))).toNat * 2 ^ up * 18446744073709551616 ^ i := by
      rw [Int.pow_add, Int.mul_comm, e0]
    rw [e1, ← Int.ediv_ediv_of_nonneg (Int.le_of_lt (Int.mul_pos (two_pos _) (two_pos up))), Int.mul_ediv_mul_of_pos_left _ _ (two_pos up)]
theorem shv_nonneg {n : Int} (h : 0 ≤ n) (b : Int) : 0 ≤ shv n b := by
  unfold shv; split
  · exact Int.mul_nonneg h (Int.le_of_lt (two_pos _))
  · exact ediv_nn h (Int.le_of_lt (two_pos _))
theorem shv_lt {n w : Int} (la up : Nat) (hu : up < 64) (hn : 0 ≤ n) (h : n < 18446744073709551616 ^ la) (m : Nat) (hm : (la : Int) + w + 1 ≤ m) : shv n (64 * w + up) < 18446744073709551616 ^ m := by
  have hu2 := two_pos up
  have hub : (2 : Int) ^ up ≤ 18446744073709551616 := by rw [bw2]; exact pow_le (by omega) (by omega)
  have hV : n * 2 ^ up < 18446744073709551616 ^ (la + 1) := by
    have a1 : n * 2 ^ up < 18446744073709551616 ^ la * 2 ^ up := Int.mul_lt_mul_of_pos_right h hu2
    have a2 : (18446744073709551616 : Int) ^ la * 2 ^ up ≤ 18446744073709551616 ^ la * 18446744073709551616 := Int.mul_le_mul_of_nonneg_left hub (Int.le_of_lt (pow_pos B0 la))
    rw [Int.pow_succ]; omega
  unfold shv
  by_cases hw : 0 ≤ w
  · obtain ⟨t, rfl⟩ := Int.eq_ofNat_of_zero_le hw
    rw [if_pos (by omega), show (64 * (t : Int) + (up : Int)).toNat = up + 64 * t by omega, Int.pow_add, ← Int.mul_assoc, Int.pow_mul, ← bw2]
    have a1 := Int.mul_lt_mul_of_pos_right hV (pow_pos B0 t)
    rw [← Int.pow_add] at a1
    have := pow_le B0 (show la + 1 + t ≤ m by omega)
    omega
  · obtain ⟨t, ht⟩ : ∃ t : Nat, w = -((t : Int) + 1) := ⟨(-w - 1).toNat, by omega⟩
    have hneg : ¬ 0 ≤ 64 * w + (up : Int) := by omega
    rw [if_neg hneg]
    have e1 : (18446744073709551616 : Int) ^ (t + 1) = 2 ^ (-(64 * w + (up : Int))).toNat * 2 ^ up := by
      rw [bw2, ← Int.pow_mul, ← Int.pow_add]; congr 1; omega
    have e2 : n / 2 ^ (-(64 * w + (up : Int))).toNat = n * 2 ^ up / 18446744073709551616 ^ (t + 1) := by rw [e1, Int.mul_ediv_mul_of_pos_left _ _ hu2]
    rw [e2]
    refine Int.ediv_lt_of_lt_mul (pow_pos B0 _) ?_
    rw [← Int.pow_add]
    have := pow_le B0 (show la + 1 ≤ m + (t + 1) by omega)
    omega
theorem shift_loop (l : List Int) (h : dg 18446744073709551616 l) (hl : l.length ≤ 1073741824) (w : Int) (hw0 : -4294967296 ≤ w) (hw1 : w ≤ 4294967296) (up : Nat) (hu : up < 64) (n : Nat) (hn : n ≤ 17179869184) (hnl : (l.length : Int) + w + 1 ≤ n) : ∀ (d i : Nat) (out : List Int), i + d = n → out.length = n → dg 18446744073709551616 (out.take i) →
    vl 18446744073709551616 (out.take i) = shv (vl 18446744073709551616 l) (64 * w + up) % 18446744073709551616 ^ i → Evn (fun k => number_Shift.l0 k l w up out n i) (dgs 18446744073709551616 (shv (vl 18446744073709551616 l) (64 * w + up)), 0) := by
  have hv := vl_nonneg h B0
  intro d
  induction d with
  | zero =>
    intro i out hi ho hd hvv
    obtain rfl : i = n := by omega
    have ht : out.take i = out := by rw [← ho]; exact List.take_length
    rw [ht] at hd hvv
    rw [Int.emod_eq_of_lt (shv_nonneg hv _) (shv_lt l.length up hu hv (vl_lt h B0) i hnl)] at hvv
    refine Evn.succ (h := fun _ => some (cutL out, 0)) (fun k => by rw [number_Shift.l0, if_neg (by omega)]; rfl) (Evn.of fun _ => ?_)
    rw [cut_eq B2 hd hvv]
  | succ d ih =>
    intro i out hi ho hd hvv
    have hdig := digit_or l h up hu ((i : Int) - w)
    have hsd := shv_digit (vl 18446744073709551616 l) w up hu i
    rw [← hsd] at hdig
    have hm0 := Int.emod_nonneg (shv (vl 18446744073709551616 l) (64 * w + up) / 18446744073709551616 ^ i) (show (18446744073709551616 : Int) ≠ 0 by omega)
    have hm1 := Int.emod_lt_of_pos (shv (vl 18446744073709551616 l) (64 * w + up) / 18446744073709551616 ^ i) B0
    refine Evn.succ (fun k => ?_) (ih (i + 1) (out.set i (shv (vl 18446744073709551616 l) (64 * w + up) / 18446744073709551616 ^ i % 18446744073709551616)) (by omega) (by rw [List.length_set]; exact ho) (dg_set_take hd (by omega) hm0 hm1) (by
      rw [vl_set_take _ _ _ (by omega), hvv, Int.pow_succ, mod_succ _ _ _ (pow_pos B0 i)]))
    rw [number_Shift.l0, if_pos (by omega), w64 ((i : Int) - w) (by omega) (by omega), at_z, bsome, if_pos (by omega), w64 ((i : Int) - w - 1) (by omega) (by omega), at_z, bsome, w64 (64 - (up : Int)) (by omega) (by omega), if_pos (by omega), if_pos (by omega), if_pos (by omega), show (64 : Int) - (up : Int) = ((64 - up : Nat) : Int) by omega, hdig, Int.toNat_natCast, w64 _ (by omega) (by omega)]
    rfl
/-- What Shift answers. -/
def shiftR (n b : Int) : List Int × Int := if b < -65536 ∨ 65536 < b then ([], 10) else (dgs 18446744073709551616 (shv n b), 0)
theorem shift_j1 (l : List Int) (h : dg 18446744073709551616 l) (hl : l.length ≤ 1073741824) (w : Int) (hw0 : -4294967296 ≤ w) (hw1 : w ≤ 4294967296) (up : Nat) (hu : up < 64) : Evn (fun k => number_Shift.j1 k l w (up : Int)) (dgs 18446744073709551616 (shv (vl 18446744073709551616 l) (64 * w + up)), 0) := by
  have e1 : mx 0 (wrap64 (wrap64 ((l.length : Int) + w) + 1)) = (((l.length : Int) + w + 1).toNat : Int) := by
    rw [w64 ((l.length : Int) + w) (by omega) (by omega), w64 _ (by omega) (by omega)]; unfold mx; split <;> omega
  refine Evn.succ (fun k => ?_) (shift_loop l h hl w hw0 hw1 up hu ((l.length : Int) + w + 1).toNat (by omega) (by omega) ((l.length : Int) + w + 1).toNat 0 (List.replicate ((l.length : Int) + w + 1).toNat 0) (by omega) (by simp) (by simp; exact dg_nil) (by simp [vl]))
  rw [number_Shift.j1, e1, if_pos (by omega), if_pos (by omega), bsome, Int.toNat_natCast, List.length_replicate]
  rfl
theorem shift_ev (l : List Int) (h : dg 18446744073709551616 l) (hl : l.length ≤ 1073741824) (b : Int) : Evn (fun k => number_Shift.f k l b) (shiftR (vl 18446744073709551616 l) b) := by
  have hout : Evn (fun k => number_Shift.j0 k l b true) (([] : List Int), (10 : Int)) := Evn.succ (h := fun _ => some ([], 10)) (fun k => by rw [number_Shift.j0, if_pos rfl]) (Evn.of fun _ => rfl)
  unfold shiftR
  by_cases hlo : b < -65536
  · rw [if_pos (.inl hlo)]
    exact Evn.congr (fun k => by unfold number_Shift.f; rw [if_pos hlo]) hout
  · by_cases hhi : b > 65536
    · rw [if_pos (.inr hhi)]
      exact Evn.congr (fun k => by unfold number_Shift.f; rw [if_neg hlo, decide_eq_true hhi]) hout
    · rw [if_neg (by omega)]
      have hj := shift_j1 l h hl (b / 64) (by omega) (by omega) (b % 64).toNat (by omega)
      rw [show 64 * (b / 64) + ((b % 64).toNat : Int) = b by omega] at hj
      refine Evn.congr (fun k => by unfold number_Shift.f; rw [if_neg hlo, decide_eq_false hhi]) (Evn.succ (fun k => ?_) hj)
      rw [number_Shift.j0, if_neg (by decide)]
      by_cases hb : 0 ≤ b
      · obtain ⟨c, rfl⟩ := Int.eq_ofNat_of_zero_le hb
        have t1 := tdiv_nat c 64
        have t2 := tmod_nat c 64
        rw [show ((64 : Nat) : Int) = 64 from rfl] at t1 t2
        rw [t1, t2, if_neg (by omega), w64 _ (by omega) (by omega)]
        congr 1 <;> omega
      · obtain ⟨c, hc⟩ : ∃ c : Nat, b = -(c : Int) := ⟨(-b).toNat, by omega⟩
        have t1 : Int.tdiv b 64 = -((c / 64 : Nat) : Int) := by rw [hc, Int.neg_tdiv]; have := tdiv_nat c 64; rw [show ((64 : Nat) : Int) = 64 from rfl] at this; rw [this]
        have t2 : Int.tmod b 64 = -((c % 64 : Nat) : Int) := by rw [hc, Int.neg_tmod]; have := tmod_nat c 64; rw [show ((64 : Nat) : Int) = 64 from rfl] at this; rw [this]
        by_cases hz : c % 64 = 0
        · rw [t1, t2, if_neg (by omega), w64 _ (by omega) (by omega)]
          congr 1 <;> omega
        · rw [t1, t2, if_pos (by omega), w64 (-((c / 64 : Nat) : Int)) (by omega) (by omega), w64 _ (by omega) (by omega), w64 _ (by omega) (by omega)]
          congr 1 <;> omega
end Go.Proofs.Ytdaehflffecllaa.A
namespace Go.Proofs.Ytdaehflffecllaa.A
open Go.RowKit Go.Proofs.YtdaehflffecllaaW.PrintWords Go.Proofs.Ytdaehflffecllaa.N Go.Proofs.Ytdaehflffecllaa.T
theorem and_i64 (x : Int) (h0 : 0 ≤ x) (h1 : x < 9223372036854775808) : Go.bits .and .i64 x 1 = x % 2 := by
  obtain ⟨a, rfl⟩ := Int.eq_ofNat_of_zero_le h0
  have := (bits_nat .i64 63 (by decide) (fun n h0 h1 => by rw [IntKind.wrap_i64]; omega) a 1 (by omega) (by omega)).1
  rw [Nat.and_one_is_mod] at this
  rw [show ((1 : Nat) : Int) = 1 from rfl] at this
  rw [this, Int.natCast_emod]; rfl
/-- The digits as a list. -/
def nafL (N : Int) (b n : Nat) : List Int := rowL (nafD N b) n
theorem pow8b (b : Nat) (hb : b ≤ 8) : (2 : Int) ^ b ≤ 256 := by
  have hp : (2 : Int) ^ b ≤ 2 ^ 8 := pow_le (by omega) hb
  exact hp
theorem half_div (N : Int) (i : Nat) : N / 2 ^ (i + 1) = N / 2 ^ i / 2 := by
  rw [Int.pow_succ, Int.ediv_ediv_of_nonneg (Int.le_of_lt (two_pos i))]
theorem naf_loop (l : List Int) (h : dg 256 l) (hl : l.length ≤ 64) (b : Nat) (hb : 2 ≤ b) (hb8 : b ≤ 8) (n : Nat) (hn : n = 8 * l.length + 1) : ∀ (d i : Nat) (over : Int) (x : List Int), n ≤ i + d → i ≤ n + 8 → x.length = n → 0 ≤ over → over ≤ 1 →
    nafM (vl 256 l) b i = vl 256 l / 2 ^ i + over → (∀ j, j < i → j < n → rd x (j : Int) = nafD (vl 256 l) b j) → (∀ j, i ≤ j → j < n → rd x (j : Int) = 0) →
    Evn (fun k => digits_Naf.l0 k (b : Int) l x over (i : Int)) (nafL (vl 256 l) b n, 0) := by
  intro d
  induction d with
  | zero =>
    intro i over x hd hi hx _ _ _ h1 _
    refine Evn.succ (h := fun _ => some (nafL (vl 256 l) b n, 0)) (fun k => ?_) (Evn.of fun _ => rfl)
    rw [digits_Naf.l0, if_neg (by omega)]
    unfold nafL
    rw [rowL_ext x (nafD (vl 256 l) b) n hx (fun j hj => h1 j (by omega) hj)]
  | succ d ih =>
    intro i over x hd hi hx ho0 ho1 hM h1 h2
    by_cases hin : i < n
    · have hr := reader_eval l h (by omega) i (by omega)
      have hb0 := bitv_bd (vl 256 l) (i : Int)
      have hbe : bitv (vl 256 l) (i : Int) = vl 256 l / 2 ^ i % 2 := bitv_nat _ _
      have hand := and_i64 (bitv (vl 256 l) (i : Int) + over) (by omega) (by omega)
      have hpar : nafM (vl 256 l) b i % 2 = (bitv (vl 256 l) (i : Int) + over) % 2 := by rw [hM, hbe]; omega
      have hhd := half_div (vl 256 l) i
      by_cases he : nafM (vl 256 l) b i % 2 = 0
      · have hD : nafD (vl 256 l) b i = 0 := nd_zero he
        have hS := nafM_succ (vl 256 l) b i (by omega)
        rw [hD] at hS
        refine Evn.succ (fun k => ?_) (ih (i + 1) over x (by omega) (by omega) hx ho0 ho1 (by omega) (fun j hj hj2 => ?_) (fun j hj hj2 => h2 j (by omega) hj2))
        · rw [digits_Naf.l0, if_pos (by omega), hr, bsome', w64 (bitv (vl 256 l) (i : Int) + over) (by omega) (by omega), hand, if_pos (by omega), w64 ((i : Int) + 1) (by omega) (by omega)]; rfl
        · by_cases hji : j = i
          · rw [hji, h2 i (by omega) hin, hD]
          · exact h1 j (by omega) hj2
      · have hodd := nd_odd (b := b) (by omega) he
        have hDn : ¬ nafD (vl 256 l) b i = 0 := fun e => by have h9 : nafD (vl 256 l) b i % 2 = 1 := hodd.1; rw [e] at h9; omega
        have hjump := naf_jump (vl 256 l) b i hb hDn
        have hgap := naf_gap (vl 256 l) b i (by omega) hDn
        have hwin := win_one (vl 256 l) i b
        have hwb := win_bd (vl 256 l) i 1 b
        have hh := pow_half b (by omega)
        have hp := two_pos (b - 1)
        have hp2 : (2 : Int) ^ 1 ≤ 2 ^ (b - 1) := pow_le (by omega) (by omega)
        rw [show (2 : Int) ^ 1 = 2 from rfl] at hp2
        have h8 := pow8b b hb8
        -- what is read is less than 2^b
        have hmod : win (vl 256 l) i 1 b + over = nafM (vl 256 l) b i % 2 ^ b := by
          have e2 := mod_pow_two (vl 256 l / 2 ^ i) b (by omega)
          have hlt : win (vl 256 l) i 1 b + over < 2 ^ b := by
            rcases (show over = 0 ∨ over = 1 by omega) with h9 | h9
            · omega
            · have e3 : (2 : Int) ^ b = 2 * 2 ^ (b - 1) := hh
              omega
          rw [hM]
          refine (mod_of (q := vl 256 l / 2 ^ i / 2 ^ b) ?_ (by omega) hlt).symm
          have := Int.emod_add_mul_ediv (vl 256 l / 2 ^ i) (2 ^ b)
          omega
        have hq1 : (win (vl 256 l) i 1 b + over) / 2 ^ (b - 1) = if 2 ^ (b - 1) ≤ win (vl 256 l) i 1 b + over then 1 else 0 := by
          have hlt : win (vl 256 l) i 1 b + over < 2 ^ b := by rw [hmod]; exact Int.emod_lt_of_pos _ (by omega)
          split
          · exact div_of (r := win (vl 256 l) i 1 b + over - 2 ^ (b - 1)) (by omega) (by omega) (by omega)
          · exact Int.ediv_eq_zero_of_lt (by omega) (by omega)
        generalize hov : (win (vl 256 l) i 1 b + over) / 2 ^ (b - 1) = ov2 at hq1
        have hov2 : ov2 = 0 ∨ ov2 = 1 := by rw [hq1]; split <;> omega
        have hDig : win (vl 256 l) i 1 b + over - ov2 * 2 ^ b = nafD (vl 256 l) b i := by
          show _ = nd b (nafM (vl 256 l) b i)
          unfold nd
          rw [if_neg he, ← hmod, hq1]
          split <;> omega
        have hNext : nafM (vl 256 l) b (i + b) = vl 256 l / 2 ^ (i + b) + ov2 := by
          rw [hjump, Int.pow_add, ← Int.ediv_ediv_of_nonneg (Int.le_of_lt (two_pos i))]
          refine div_of (r := 0) ?_ (by omega) (by omega)
          have e4 := Int.emod_add_mul_ediv (vl 256 l / 2 ^ i) (2 ^ b)
          rw [Int.mul_add, Int.mul_comm (2 ^ b) ov2]
          omega
        have ew := window_ev l h (by omega) i 1 b (by omega) (by omega) (by omega)
        rw [show ((1 : Nat) : Int) = 1 from rfl] at ew
        have hdb := nd_bd (b := b) (nafM (vl 256 l) b i) (by omega)
        have hdb' : -(2 ^ (b - 1)) ≤ nafD (vl 256 l) b i ∧ nafD (vl 256 l) b i < 2 ^ (b - 1) := hdb
        have m0 : 0 ≤ ov2 * 2 ^ b ∧ ov2 * 2 ^ b ≤ 256 := by rcases hov2 with h9 | h9 <;> rw [h9] <;> omega
        refine Evn.succ (fun k => by rw [digits_Naf.l0, if_pos (by omega), hr, bsome', w64 (bitv (vl 256 l) (i : Int) + over) (by omega) (by omega), hand, if_neg (by omega)]) (Evn.bind ew ?_)
        refine Evn.congr (fun k => ?_) (ih (i + b) ov2 (x.set i (nafD (vl 256 l) b i)) (by omega) (by omega) (by simp [hx]) (by omega) (by omega) hNext (fun j hj hj2 => ?_) (fun j hj hj2 => ?_))
        · rw [w64 ((b : Int) - 1) (by omega) (by omega), if_pos (by omega), if_pos (by omega), if_pos (by omega), w64 (win (vl 256 l) i 1 b + over) (by omega) (by omega), show (b : Int) - 1 = ((b - 1 : Nat) : Int) by omega, shr_i64 _ _ (by omega), hov, shl_i64 _ _ (by omega) (by omega) (by omega), hDig, w64 (nafD (vl 256 l) b i) (by omega) (by omega), w64 ((i : Int) + (b : Int)) (by omega) (by omega), Int.toNat_natCast]
          rfl
        · rw [rd_set _ _ _ _ (by omega)]
          by_cases hji : i = j
          · rw [if_pos hji, hji]
          · rw [if_neg hji]
            by_cases hjl : j < i
            · exact h1 j hjl hj2
            · obtain ⟨t, rfl⟩ : ∃ t, j = i + 1 + t := ⟨j - i - 1, by omega⟩
              rw [h2 _ (by omega) hj2, (hgap t (by omega)).1]
        · rw [rd_set _ _ _ _ (by omega), if_neg (by omega), h2 j (by omega) hj2]
    · refine Evn.succ (h := fun _ => some (nafL (vl 256 l) b n, 0)) (fun k => ?_) (Evn.of fun _ => rfl)
      rw [digits_Naf.l0, if_neg (by omega)]
      unfold nafL
      rw [rowL_ext x (nafD (vl 256 l) b) n hx (fun j hj => h1 j (by omega) hj)]
theorem naf_ev (l : List Int) (h : dg 256 l) (hl : l.length ≤ 64) (b : Nat) (hb : 2 ≤ b) (hb8 : b ≤ 8) : Evn (fun k => digits_Naf.f k l (b : Int)) (nafL (vl 256 l) b (8 * l.length + 1), 0) := by
  have e := naf_loop l h hl b hb hb8 (8 * l.length + 1) rfl (8 * l.length + 1) 0 0 (List.replicate (8 * l.length + 1) 0) (by omega) (by omega) (by simp) (by omega) (by omega) (by simp [nafM]) (fun j hj => by omega) (fun j _ hj => by rw [rd_get _ _ (by simpa using hj)]; simp)
  refine Evn.congr (fun k => by unfold digits_Naf.f; rfl) (Evn.bind (check_ev l 2 (b : Int) 0 (by rw [if_neg (by omega), if_neg (by omega)])) ?_)
  refine Evn.congr (fun k => ?_) e
  rw [if_pos rfl]
  unfold digits_reader.f
  rw [bsome', w64 (8 * (l.length : Int)) (by omega) (by omega), w64 (8 * (l.length : Int) + 1) (by omega) (by omega), if_pos (by omega), show (8 * (l.length : Int) + 1).toNat = 8 * l.length + 1 by omega, if_pos (by omega)]
  rfl
end Go.Proofs.Ytdaehflffecllaa.A
namespace Go.Proofs.Ytdaehflffecllaa.A
open Go.RowKit Go.Proofs.YtdaehflffecllaaW.PrintWords Go.Proofs.Ytdaehflffecllaa.N Go.Proofs.Ytdaehflffecllaa.T
def upD (x : Int) : Int := if 0 ≤ x then x else 0
def dnD (x : Int) : Int := if 0 ≤ x then 0 else -x
/-- What is above 0, and what is below, put together apart. -/
def upS (B : Int) : List Int → Int
  | [] => 0
  | x :: xs => upD x + B * upS B xs
def dnS (B : Int) : List Int → Int
  | [] => 0
  | x :: xs => dnD x + B * dnS B xs
theorem up_dn (B : Int) : ∀ l, upS B l - dnS B l = vl B l
  | [] => rfl
  | x :: xs => by
    have h := up_dn B xs
    have e : upD x - dnD x = x := by unfold upD dnD; split <;> omega
    simp only [upS, dnS, vl]
    rw [← h, Int.mul_sub]; omega
theorem up_nn {B : Int} (hB : 0 ≤ B) : ∀ l, 0 ≤ upS B l
  | [] => Int.le_refl 0
  | x :: xs => by
    have h := Int.mul_nonneg hB (up_nn hB xs)
    have e : 0 ≤ upD x := by unfold upD; split <;> omega
    simp only [upS]; omega
theorem dn_nn {B : Int} (hB : 0 ≤ B) : ∀ l, 0 ≤ dnS B l
  | [] => Int.le_refl 0
  | x :: xs => by
    have h := Int.mul_nonneg hB (dn_nn hB xs)
    have e : 0 ≤ dnD x := by unfold dnD; split <;> omega
    simp only [dnS]; omega
/-- They are not too long. -/
theorem up_le (b : Nat) (hb : 1 ≤ b) (hb8 : b ≤ 8) : ∀ l : List Int, (∀ x ∈ l, -256 ≤ x ∧ x ≤ 256) → upS (2 ^ b) l ≤ 512 * 18446744073709551616 ^ l.length - 512 ∧ dnS (2 ^ b) l ≤ 512 * 18446744073709551616 ^ l.length - 512
  | [], _ => by simp [upS, dnS]
  | x :: xs, h => by
    have ih := up_le b hb hb8 xs (fun y hy => h y (List.mem_cons_of_mem _ hy))
    have hx := h x List.mem_cons_self
    have hp := two_pos b
    have hp8 : (2 : Int) ^ b ≤ 2 ^ 8 := pow_le (by omega) hb8
    rw [show (2 : Int) ^ 8 = 256 from rfl] at hp8
    have e1 : upD x ≤ 256 := by unfold upD; split <;> omega
    have e2 : dnD x ≤ 256 := by unfold dnD; split <;> omega
    have hB := pow_pos B0 xs.length
    have k1 : 2 ^ b * upS (2 ^ b) xs ≤ 256 * (512 * 18446744073709551616 ^ xs.length - 512) := by
      have h1 := Int.mul_le_mul_of_nonneg_left ih.1 (show (0 : Int) ≤ 2 ^ b by omega)
      have h2 := Int.mul_le_mul_of_nonneg_right hp8 (show (0 : Int) ≤ 512 * 18446744073709551616 ^ xs.length - 512 by omega)
      omega
    have k2 : 2 ^ b * dnS (2 ^ b) xs ≤ 256 * (512 * 18446744073709551616 ^ xs.length - 512) := by
      have h1 := Int.mul_le_mul_of_nonneg_left ih.2 (show (0 : Int) ≤ 2 ^ b by omega)
      have h2 := Int.mul_le_mul_of_nonneg_right hp8 (show (0 : Int) ≤ 512 * 18446744073709551616 ^ xs.length - 512 by omega)
      omega
    simp only [upS, dnS, List.length_cons, Int.pow_succ]
    omega
theorem told_len {u : Int} {n : Nat} (h0 : 0 ≤ u) (h : u ≤ 512 * 18446744073709551616 ^ n - 512) : (dgs 18446744073709551616 u).length ≤ n + 1 := by
  refine dgs_len_le B2 u h0 (n + 1) ?_
  have hB := pow_pos B0 n
  rw [Int.pow_succ]; omega
theorem shift_up (u : Int) (h0 : 0 ≤ u) (hl : (dgs 18446744073709551616 u).length ≤ 1073741824) (b : Nat) (hb : b ≤ 8) : Evn (fun k => number_Shift.f k (dgs 18446744073709551616 u) (b : Int)) (dgs 18446744073709551616 (2 ^ b * u), 0) := by
  have e := shift_ev (dgs 18446744073709551616 u) (dgs_dg B2 u h0) hl (b : Int)
  rw [vl_dgs B2 u h0] at e
  unfold shiftR at e
  rw [if_neg (by omega)] at e
  unfold shv at e
  rw [if_pos (by omega), Int.toNat_natCast, Int.mul_comm] at e
  exact e
theorem add_one (u x : Int) (h0 : 0 ≤ u) (hl : (dgs 18446744073709551616 u).length ≤ 1073741824) (hx : 0 ≤ x) (hx1 : x < 18446744073709551616) : Evn (fun k => number_Add.f k (dgs 18446744073709551616 u) [x]) (dgs 18446744073709551616 (x + u)) := by
  have e := add_ev (dgs 18446744073709551616 u) [x] (dgs_dg B2 u h0) (dg_one hx hx1) hl (by simp)
  rw [vl_dgs B2 u h0, vl_one, Int.add_comm] at e
  exact e
theorem told_loop (l : List Int) (hl : l.length ≤ 1048576) (hd : ∀ x ∈ l, -256 ≤ x ∧ x ≤ 256) (b : Nat) (hb : 1 ≤ b) (hb8 : b ≤ 8) (N : Int) (hN : 0 ≤ N) (hNl : (dgs 18446744073709551616 N).length ≤ 1048576) : ∀ i : Nat, i ≤ l.length →
    Evn (fun k => chicorylaw07_told.l0 k l (b : Int) (dgs 18446744073709551616 N) (dgs 18446744073709551616 (upS (2 ^ b) (l.drop i))) (dgs 18446744073709551616 (dnS (2 ^ b) (l.drop i))) ((i : Int) - 1)) (decide (vl (2 ^ b) l = N)) := by
  have hp := two_pos b
  intro i
  induction i with
  | zero =>
    intro _
    have u0 := up_nn (Int.le_of_lt hp) l
    have d0 := dn_nn (Int.le_of_lt hp) l
    have hle := up_le b hb hb8 l hd
    have lu := told_len u0 hle.1
    have ld := told_len d0 hle.2
    have ea := add_ev (dgs 18446744073709551616 N) (dgs 18446744073709551616 (dnS (2 ^ b) l)) (dgs_dg B2 N hN) (dgs_dg B2 _ d0) (by omega) (by omega)
    rw [vl_dgs B2 N hN, vl_dgs B2 _ d0] at ea
    have n2 : 0 ≤ N + dnS (2 ^ b) l := by omega
    have hlen2 : (dgs 18446744073709551616 (N + dnS (2 ^ b) l)).length ≤ 1073741824 := by
      have q : N < 18446744073709551616 ^ 1048576 := by
        have q1 := vl_lt (dgs_dg B2 N hN) B0
        rw [vl_dgs B2 N hN] at q1
        have q2 : (18446744073709551616 : Int) ^ (dgs 18446744073709551616 N).length ≤ 18446744073709551616 ^ 1048576 := pow_le B0 hNl
        exact Int.lt_of_lt_of_le q1 q2
      have q3 : (18446744073709551616 : Int) ^ l.length ≤ 18446744073709551616 ^ 1048576 := pow_le B0 hl
      refine Nat.le_trans (dgs_len_le B2 _ n2 1048577 ?_) (by omega)
      rw [show (1048577 : Nat) = 1048576 + 1 from rfl, Int.pow_succ]
      generalize (18446744073709551616 : Int) ^ 1048576 = z at q q3 ⊢
      omega
    have ec := compare_ev (dgs 18446744073709551616 (upS (2 ^ b) l)) (dgs 18446744073709551616 (N + dnS (2 ^ b) l)) (dgs_dg B2 _ u0) (dgs_dg B2 _ n2) (by omega) (by omega)
    rw [vl_dgs B2 _ u0, vl_dgs B2 _ n2] at ec
    rw [List.drop_zero]
    refine Evn.succ (fun k => by rw [chicorylaw07_told.l0, if_neg (by omega)]) (Evn.bind ea (Evn.bind ec (Evn.of fun _ => ?_)))
    congr 1
    have hud := up_dn (2 ^ b) l
    by_cases hv : vl (2 ^ b) l = N
    · rw [decide_eq_true hv]; exact beq_iff_eq.2 (cmpI_zero.2 (by omega))
    · rw [decide_eq_false hv]; exact beq_eq_false_iff_ne.2 (fun e => hv (by have := cmpI_zero.1 e; omega))
  | succ i ih =>
    intro hi
    have hdd : ∀ x ∈ l.drop (i + 1), -256 ≤ x ∧ x ≤ 256 := fun x hx => hd x (List.mem_of_mem_drop hx)
    have u0 := up_nn (Int.le_of_lt hp) (l.drop (i + 1))
    have d0 := dn_nn (Int.le_of_lt hp) (l.drop (i + 1))
    have hle := up_le b hb hb8 (l.drop (i + 1)) hdd
    have lu := told_len u0 hle.1
    have ld := told_len d0 hle.2
    rw [List.length_drop] at lu ld
    have hcut : l.drop i = rd l (i : Int) :: l.drop (i + 1) := by rw [List.drop_eq_getElem_cons (by omega), rd_get l i (by omega)]
    have hx : -256 ≤ rd l (i : Int) ∧ rd l (i : Int) ≤ 256 := by rw [rd_get l i (by omega)]; exact hd _ (List.getElem_mem _)
    have eu := shift_up _ u0 (by omega) b hb8
    have ed := shift_up _ d0 (by omega) b hb8
    have u1 : 0 ≤ 2 ^ b * upS (2 ^ b) (l.drop (i + 1)) := Int.mul_nonneg (Int.le_of_lt hp) u0
    have d1 : 0 ≤ 2 ^ b * dnS (2 ^ b) (l.drop (i + 1)) := Int.mul_nonneg (Int.le_of_lt hp) d0
    have hdd' : ∀ x ∈ (0 : Int) :: l.drop (i + 1), -256 ≤ x ∧ x ≤ 256 := fun x hx => by rcases List.mem_cons.1 hx with h | h
                                                                                        · rw [h]; omega
                                                                                        · exact hdd x h
    have hle' := up_le b hb hb8 ((0 : Int) :: l.drop (i + 1)) hdd'
    have s1 : upS (2 ^ b) ((0 : Int) :: l.drop (i + 1)) = 2 ^ b * upS (2 ^ b) (l.drop (i + 1)) := by simp [upS, upD]
    have s2 : dnS (2 ^ b) ((0 : Int) :: l.drop (i + 1)) = 2 ^ b * dnS (2 ^ b) (l.drop (i + 1)) := by simp [dnS, dnD]
    rw [s1, s2] at hle'
    have lu1 := told_len u1 hle'.1
    have ld1 := told_len d1 hle'.2
    rw [List.length_cons, List.length_drop] at lu1 ld1
    have x0 : 0 ≤ upD (rd l (i : Int)) ∧ upD (rd l (i : Int)) ≤ 256 := by unfold upD; split <;> omega
    have y0 : 0 ≤ dnD (rd l (i : Int)) ∧ dnD (rd l (i : Int)) ≤ 256 := by unfold dnD; split <;> omega
    have ea := add_one _ (upD (rd l (i : Int))) u1 (by omega) x0.1 (by omega)
    have eb := add_one _ (dnD (rd l (i : Int))) d1 (by omega) y0.1 (by omega)
    have w1 : IntKind.u64.wrap (mx (rd l (i : Int)) 0) = upD (rd l (i : Int)) := by
      have : mx (rd l (i : Int)) 0 = upD (rd l (i : Int)) := by unfold mx upD; split <;> split <;> omega
      rw [this, wrap_id _ x0.1 (by omega)]
    have w2 : IntKind.u64.wrap (mx (wrap64 (-(rd l (i : Int)))) 0) = dnD (rd l (i : Int)) := by
      have : mx (wrap64 (-(rd l (i : Int)))) 0 = dnD (rd l (i : Int)) := by rw [w64 _ (by omega) (by omega)]; unfold mx dnD; split <;> split <;> omega
      rw [this, wrap_id _ y0.1 (by omega)]
    have hnext := ih (by omega)
    rw [hcut] at hnext
    have hz : ((i + 1 : Nat) : Int) - 1 = (i : Int) := by omega
    refine Evn.succ (fun k => by rw [chicorylaw07_told.l0, if_pos (by omega)]) (Evn.bind eu (Evn.bind ed ?_))
    refine Evn.congr (h := fun k => chicorylaw07_told.j1 k l (b : Int) (dgs 18446744073709551616 N) (i : Int) (dgs 18446744073709551616 (2 ^ b * upS (2 ^ b) (l.drop (i + 1)))) (dgs 18446744073709551616 (2 ^ b * dnS (2 ^ b) (l.drop (i + 1)))) false) (fun k => ?_) (Evn.succ (fun k => by rw [chicorylaw07_told.j1, if_neg (by decide), if_pos (by omega), if_pos (by omega), w1, w2]) (Evn.bind ea (Evn.bind eb ?_)))
    · rw [hz, if_pos rfl, if_pos rfl, if_pos (by omega), if_pos (by omega), if_neg (by omega), decide_eq_false (by omega)]
    · refine Evn.congr (fun k => ?_) hnext
      rw [w64 ((i : Int) - 1) (by omega) (by omega)]; rfl
theorem told_ev (l : List Int) (hl : l.length ≤ 1048576) (hd : ∀ x ∈ l, -256 ≤ x ∧ x ≤ 256) (b : Nat) (hb : 1 ≤ b) (hb8 : b ≤ 8) (N : Int) (hN : 0 ≤ N) (hNl : (dgs 18446744073709551616 N).length ≤ 1048576) :
    Evn (fun k => chicorylaw07_told.f k l (b : Int) (dgs 18446744073709551616 N)) (decide (vl (2 ^ b) l = N)) := by
  have e := told_loop l hl hd b hb hb8 N hN hNl l.length (Nat.le_refl _)
  rw [List.drop_eq_nil_of_le (Nat.le_refl _)] at e
  refine Evn.congr (fun k => ?_) e
  unfold chicorylaw07_told.f
  rw [w64 _ (by omega) (by omega), show upS (2 ^ b) [] = 0 from rfl, show dnS (2 ^ b) [] = 0 from rfl, dgs_zero]
end Go.Proofs.Ytdaehflffecllaa.A
namespace Go.Proofs.Ytdaehflffecllaa.A
open Go.RowKit Go.Proofs.YtdaehflffecllaaW.PrintWords Go.Proofs.Ytdaehflffecllaa.N Go.Proofs.Ytdaehflffecllaa.T
theorem of_loop (l : List Int) (h : dg 256 l) (hl : l.length ≤ 1073741824) : ∀ (d i : Nat) (out : List Int), i + d = l.length → 8 * out.length < l.length + 8 → l.length ≤ 8 * out.length → dg 18446744073709551616 out → vl 18446744073709551616 out = vl 256 (l.take i) →
    Evn (fun k => number_Of.l0 k out l l.length i) (dgs 18446744073709551616 (vl 256 l)) := by
  intro d
  induction d with
  | zero =>
    intro i out hi _ _ hd hv
    obtain rfl : i = l.length := by omega
    rw [List.take_length] at hv
    refine Evn.succ (h := fun _ => some (cutL out)) (fun k => by rw [number_Of.l0, if_neg (by omega)]; rfl) (Evn.of fun _ => ?_)
    rw [cut_eq B2 hd hv]
  | succ d ih =>
    intro i out hi ho1 ho2 hd hv
    have hr := rd_bd h C0 i
    have ht := vl_take_bd h C0 i
    have hw : i / 8 < out.length := by omega
    have hro := rd_bd hd B0 (i / 8)
    have t1 := tdiv_nat i 8
    have t2 := tmod_nat i 8
    rw [show ((8 : Nat) : Int) = 8 from rfl] at t1 t2
    have hs8 : (256 : Int) ^ (i % 8) = 2 ^ (8 * (i % 8)) := by rw [Int.pow_mul]; rfl
    have hpw : (256 : Int) ^ i = 18446744073709551616 ^ (i / 8) * 2 ^ (8 * (i % 8)) := by
      rw [← hs8, show (18446744073709551616 : Int) = 256 ^ 8 from rfl, ← Int.pow_mul, ← Int.pow_add]; congr 1; omega
    have hp8 := pow_pos B0 (i / 8)
    have hp2 := two_pos (8 * (i % 8))
    have hrb : rd out ((i / 8 : Nat) : Int) < 2 ^ (8 * (i % 8)) := by
      rw [rd_vl hd B0, hv]
      have h1 : vl 256 (l.take i) / 18446744073709551616 ^ (i / 8) < 2 ^ (8 * (i % 8)) := Int.ediv_lt_of_lt_mul hp8 (by rw [Int.mul_comm, ← hpw]; exact ht.2)
      have h2 := ediv_nn (b := 18446744073709551616 ^ (i / 8)) ht.1 (Int.le_of_lt hp8)
      have h3 := Int.emod_add_mul_ediv (vl 256 (l.take i) / 18446744073709551616 ^ (i / 8)) 18446744073709551616
      have h4 := ediv_nn (b := 18446744073709551616) h2 (by omega)
      omega
    have h56 : (2 : Int) ^ (8 * (i % 8)) ≤ 2 ^ 56 := pow_le (by omega) (by omega)
    rw [show (2 : Int) ^ 56 = 72057594037927936 from rfl] at h56
    have hy0 : 0 ≤ rd l (i : Int) * 2 ^ (8 * (i % 8)) := Int.mul_nonneg hr.1 (Int.le_of_lt hp2)
    have hy1 : rd l (i : Int) * 2 ^ (8 * (i % 8)) ≤ 255 * 2 ^ (8 * (i % 8)) := Int.mul_le_mul_of_nonneg_right (by omega) (Int.le_of_lt hp2)
    have hsh : shl .u64 (IntKind.u64.wrap (rd l (i : Int))) ((8 * (i % 8) : Nat) : Int) = rd l (i : Int) * 2 ^ (8 * (i % 8)) := by
      rw [shl_eq _ _ (by omega), wrap_id _ hr.1 (by omega), Int.emod_eq_of_lt hy0 (by omega)]
    have hor : Go.bits .or .u64 (rd out ((i / 8 : Nat) : Int)) (rd l (i : Int) * 2 ^ (8 * (i % 8))) = rd out ((i / 8 : Nat) : Int) + rd l (i : Int) * 2 ^ (8 * (i % 8)) := by
      rw [or_comm' _ _ hro.1 hro.2 hy0 (by omega), or_add _ _ (8 * (i % 8)) hy0 (by omega) hro.1 hrb (by omega) (Int.mul_emod_left _ _), Int.add_comm]
    refine Evn.succ (fun k => ?_) (ih (i + 1) (out.set (i / 8) (rd out ((i / 8 : Nat) : Int) + rd l (i : Int) * 2 ^ (8 * (i % 8)))) (by omega) (by rw [List.length_set]; omega) (by rw [List.length_set]; omega) (dg_set hd (by omega) (by omega)) (by
      rw [vl_set _ _ _ hw, hv, vl_take_succ, hpw]; grind))
    rw [number_Of.l0, if_pos (by omega), if_pos (by omega), if_pos (by omega), t1, t2, w64 ((i / 8 : Nat) : Int) (by omega) (by omega), if_pos (by omega), if_pos (by omega), w64 (8 * ((i % 8 : Nat) : Int)) (by omega) (by omega), if_pos (by omega), Int.toNat_natCast, show 8 * ((i % 8 : Nat) : Int) = ((8 * (i % 8) : Nat) : Int) by omega, hsh, hor, w64 _ (by omega) (by omega)]
    rfl
theorem of_ev (l : List Int) (h : dg 256 l) (hl : l.length ≤ 1073741824) : Evn (fun k => number_Of.f k l) (dgs 18446744073709551616 (vl 256 l)) := by
  refine Evn.congr (fun k => ?_) (of_loop l h hl l.length 0 (List.replicate ((l.length + 7) / 8) 0) (by omega) (by simp; omega) (by simp; omega) (dg_replicate B0 _) (by rw [vl_zeros]; simp [vl]))
  have t1 := tdiv_nat (l.length + 7) 8
  rw [show ((8 : Nat) : Int) = 8 from rfl] at t1
  unfold number_Of.f
  rw [w64 ((l.length : Int) + 8) (by omega) (by omega), show (l.length : Int) + 8 - 1 = ((l.length + 7 : Nat) : Int) by omega, w64 ((l.length + 7 : Nat) : Int) (by omega) (by omega), t1, w64 _ (by omega) (by omega), if_pos (by omega), if_pos (by omega), Int.toNat_natCast]
  rfl
end Go.Proofs.Ytdaehflffecllaa.A
namespace Go.Proofs.Ytdaehflffecllaa.Pure
open Go.RowKit Go.Proofs.Ytdaehflffecllaa.N Go.Proofs.YtdaehflffecllaaW.PrintWords Go.Proofs.Ytdaehflffecllaa.T Go.Proofs.Ytdaehflffecllaa.A
theorem sw_len (N : Int) (l : List Int) (h : dg 256 l) (hN : N = vl 256 l) : (dgs 18446744073709551616 N).length ≤ l.length := by
  have n0 := vl_nonneg h C0
  have hlt := vl_lt h C0
  have h2 : (256 : Int) ^ l.length ≤ 18446744073709551616 ^ l.length := by
    rw [show (18446744073709551616 : Int) = 256 * 72057594037927936 from rfl, Int.mul_pow]
    have p1 := pow_pos C0 l.length
    have p2 : (0 : Int) < 72057594037927936 ^ l.length := Int.pow_pos (by omega)
    have := Int.mul_le_mul_of_nonneg_left (show (1 : Int) ≤ 72057594037927936 ^ l.length by omega) (Int.le_of_lt p1)
    omega
  exact dgs_len_le B2 N (by omega) l.length (by omega)
theorem naf_check (N : Int) (b n : Nat) (hb : 2 ≤ b) (hb8 : b ≤ 8) (hn : n ≤ 1024) : ∀ (d i : Nat) (last : Int), i + d = n → -8 ≤ last → last < (i : Int) →
    (∀ j : Nat, i ≤ j → ¬ nafD N b j = 0 → (b : Int) ≤ (j : Int) - last) →
    Evn (fun k => chicorylaw07_DigitsNaf.l1 k (b : Int) (2 ^ (b - 1)) (nafL N b n) last (i : Int)) true := by
  have hlen : (nafL N b n).length = n := rowL_len _ _
  intro d
  induction d with
  | zero =>
    intro i last hi _ _ _
    exact Evn.succ (fun k => by rw [chicorylaw07_DigitsNaf.l1, if_neg (by omega)]) awake7_some
  | succ d ih =>
    intro i last hi hlast0 hlast hg
    have hr : rd (nafL N b n) (i : Int) = nafD N b i := rowL_rd _ _ _ (by omega)
    by_cases hz : nafD N b i = 0
    · refine Evn.succ (fun k => ?_) (ih (i + 1) last (by omega) hlast0 (by omega) (fun j hj hjz => hg j (by omega) hjz))
      rw [chicorylaw07_DigitsNaf.l1, if_pos (by omega), if_pos (by omega), hr, if_pos hz, w64 ((i : Int) + 1) (by omega) (by omega)]; rfl
    · have ho : ¬ nafM N b i % 2 = 0 := fun e => hz (nd_zero e)
      have hodd := nd_odd (b := b) (by omega) ho
      have h1 : nafD N b i % 2 = 1 := hodd.1
      have h2 : -(2 ^ (b - 1)) ≤ nafD N b i ∧ nafD N b i < 2 ^ (b - 1) := ⟨hodd.2.1, hodd.2.2.1⟩
      have hp := two_pos (b - 1)
      have hh := pow_half b (by omega)
      have h8 := pow8b b hb8
      have hm : ¬ Int.tmod (nafD N b i) 2 = 0 := by
        intro e
        have h3 : (2 : Int) ∣ nafD N b i := Int.dvd_of_tmod_eq_zero e
        have h4 := Int.emod_eq_zero_of_dvd h3
        omega
      have hgap := naf_gap N b i (by omega) hz
      have hg0 := hg i (Nat.le_refl i) hz
      refine Evn.succ (fun k => ?_) (ih (i + 1) (i : Int) (by omega) (by omega) (by omega) (fun j hj hjz => ?_))
      · rw [chicorylaw07_DigitsNaf.l1, if_pos (by omega), if_pos (by omega), hr, if_neg hz, if_neg hm, w64 (-(2 ^ (b - 1))) (by omega) (by omega), if_neg (by omega), if_neg (by omega), w64 ((i : Int) - last) (by omega) (by omega), if_neg (by omega), w64 ((i : Int) + 1) (by omega) (by omega)]; rfl
      · by_cases hjb : (b : Int) ≤ (j : Int) - (i : Int)
        · exact hjb
        · obtain ⟨t, rfl⟩ : ∃ t, j = i + 1 + t := ⟨j - i - 1, by omega⟩
          exact absurd (hgap t (by omega)).1 hjz
theorem half_loop (l0 : List Int) (b : Nat) (hb : 2 ≤ b) (hb8 : b ≤ 8) (r : Bool) (h : Evn (fun k => chicorylaw07_DigitsNaf.l0 k l0 (b : Int) (2 ^ (b - 1)) (b : Int)) r) : ∀ (d i : Nat), i + d = b → 1 ≤ i →
    Evn (fun k => chicorylaw07_DigitsNaf.l0 k l0 (b : Int) (2 ^ (i - 1)) (i : Int)) r := by
  intro d
  induction d with
  | zero => intro i hi h1; obtain rfl : i = b := by omega
            exact h
  | succ d ih =>
    intro i hi h1
    have hp := two_pos (i - 1)
    have hp8 : (2 : Int) ^ (i - 1) ≤ 2 ^ 8 := pow_le (by omega) (by omega)
    rw [show (2 : Int) ^ 8 = 256 from rfl] at hp8
    have hh := pow_half i h1
    refine Evn.succ (fun k => ?_) (ih (i + 1) (by omega) (by omega))
    rw [chicorylaw07_DigitsNaf.l0, if_pos (by omega), w64 (2 * 2 ^ (i - 1)) (by omega) (by omega), w64 ((i : Int) + 1) (by omega) (by omega), ← hh, show i + 1 - 1 = i by omega]; rfl
theorem DigitsNaf : chicorylaw07_DigitsNaf.Pure := by
  intro l0 a1 _ _ hw0 _
  have d0 := db_of hw0
  refine Evn.get (?_ : Evn (fun k => chicorylaw07_DigitsNaf.f k l0 a1) true)
  have hA : Evn (fun k => chicorylaw07_DigitsNaf.j0 k l0 a1 true) true := Evn.succ (fun k => by rw [chicorylaw07_DigitsNaf.j0, if_pos rfl]) awake7_some
  by_cases h0 : l0.length ≤ 64
  · by_cases h1 : 2 ≤ a1 ∧ a1 ≤ 8
    · obtain ⟨b, rfl⟩ : ∃ t : Nat, a1 = (t : Int) := ⟨a1.toNat, by omega⟩
      have n0 := vl_nonneg d0 C0
      have hlt := vl_lt d0 C0
      have e256 : (256 : Int) ^ l0.length = 2 ^ (8 * l0.length) := by rw [Int.pow_mul]; rfl
      have hlen : (nafL (vl 256 l0) b (8 * l0.length + 1)).length = 8 * l0.length + 1 := rowL_len _ _
      have hend := nafM_end (N := vl 256 l0) b (8 * l0.length) (by omega) n0 (by omega)
      have hsum := nafM_sum (vl 256 l0) b (by omega) (nafL (vl 256 l0) b (8 * l0.length + 1)) (8 * l0.length + 1) hlen (fun i hi => rowL_rd _ _ _ hi) (8 * l0.length + 1) 0 (by omega)
      rw [hend, List.drop_zero, Int.mul_zero, Int.sub_zero, show nafM (vl 256 l0) b 0 = vl 256 l0 from rfl] at hsum
      have hbd : ∀ x ∈ nafL (vl 256 l0) b (8 * l0.length + 1), -256 ≤ x ∧ x ≤ 256 := by
        intro x hx
        obtain ⟨i, _, rfl⟩ := List.mem_map.1 hx
        have h2 : -(2 ^ (b - 1)) ≤ nafD (vl 256 l0) b i ∧ nafD (vl 256 l0) b i < 2 ^ (b - 1) := nd_bd (b := b) _ (by omega)
        have hh := pow_half b (by omega)
        have h8 := pow8b b (by omega)
        omega
      have et := told_ev (nafL (vl 256 l0) b (8 * l0.length + 1)) (by omega) hbd 1 (by omega) (by omega) (vl 256 l0) n0 (by have := sw_len (vl 256 l0) l0 d0 rfl; omega)
      rw [show (2 : Int) ^ 1 = 2 from rfl, decide_eq_true hsum, show ((1 : Nat) : Int) = 1 from rfl] at et
      have hJ : Evn (fun k => chicorylaw07_DigitsNaf.j0 k l0 (b : Int) false) true := by
        refine Evn.succ (h := fun k => chicorylaw07_DigitsNaf.l0 k l0 (b : Int) (2 ^ (1 - 1)) ((1 : Nat) : Int)) (fun k => by rw [chicorylaw07_DigitsNaf.j0, if_neg (by decide)]; rfl) (half_loop l0 b (by omega) (by omega) true ?_ (b - 1) 1 (by omega) (by omega))
        refine Evn.succ (fun k => by rw [chicorylaw07_DigitsNaf.l0, if_neg (by omega)]) (Evn.bind (naf_ev l0 d0 h0 b (by omega) (by omega)) ?_)
        refine Evn.congr (fun k => by rw [if_pos rfl, if_pos (by rw [w64 (8 * (l0.length : Int)) (by omega) (by omega), w64 _ (by omega) (by omega)]; show ((nafL (vl 256 l0) b (8 * l0.length + 1)).length : Int) = _; omega)]) (Evn.bind (of_ev l0 d0 (by omega)) (Evn.bind et ?_))
        refine Evn.succ (fun k => by rw [chicorylaw07_DigitsNaf.j2, if_neg (by decide), w64 (-(b : Int)) (by omega) (by omega)]; rfl) (naf_check (vl 256 l0) b (8 * l0.length + 1) (by omega) (by omega) (by omega) (8 * l0.length + 1) 0 (-(b : Int)) (by omega) (by omega) (by omega) (fun j _ _ => by omega))
      refine Evn.congr (fun k => ?_) hJ
      unfold chicorylaw07_DigitsNaf.f
      rw [if_neg (by omega), if_neg (by omega), decide_eq_false (by omega)]
    · refine Evn.congr (fun k => ?_) hA
      unfold chicorylaw07_DigitsNaf.f
      rw [if_neg (by omega)]
      by_cases h2 : a1 < 2
      · rw [if_pos h2]
      · rw [if_neg h2, decide_eq_true (by omega)]
  · refine Evn.congr (fun k => ?_) hA
    unfold chicorylaw07_DigitsNaf.f
    rw [if_pos (by omega)]
end Go.Proofs.Ytdaehflffecllaa.Pure
