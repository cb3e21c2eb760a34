/- What number.Shift comes to. -/
import Derived.Test.YtdaehflffecllaaNx1
import Derived.Test.YtdaehflffecllaaNx6
import Derived.Test.YtdaehflffecllaaA4
namespace Go.Proofs.Ytdaehflffecllaa.A
open Go.RowKit Go.Proofs.YtdaehflffecllaaW.PrintWords Go.Proofs.Ytdaehflffecllaa.N Go.Proofs.Ytdaehflffecllaa.T

/-- A number whose bits go up, or down. -/
def shv (n b : Int) : Int := if 0 ≤ b then n * 2 ^ b.toNat else n / 2 ^ (-b).toNat
/-- A word; 0: there is none. -/
def atz (l : List Int) (z : Int) : Int := if z < 0 then 0 else rd l z
theorem at_z (l : List Int) (z : Int) : number_Nat_at.f l z = some (atz l z) := by
  unfold atz
  by_cases h : z < 0
  · rw [at_neg l z h, if_pos h]
  · obtain ⟨i, rfl⟩ := Int.eq_ofNat_of_zero_le (show 0 ≤ z by omega)
    rw [at_nn, if_neg h]
theorem mod_succ (R B p : Int) (hp : 0 < p) : R % (p * B) = R % p + p * (R / p % B) := by
  have e1 := Int.emod_add_mul_ediv R (p * B)
  have e2 := Int.emod_add_mul_ediv R p
  have e3 := Int.emod_add_mul_ediv (R / p) B
  rw [← Int.ediv_ediv_of_nonneg (Int.le_of_lt hp)] at e1
  grind
theorem bw2 : (18446744073709551616 : Int) = 2 ^ 64 := rfl
/-- A digit of a number whose bits went up less than a word. -/
theorem digit_up (l : List Int) (h : dg 18446744073709551616 l) (up : Nat) (hu : up < 64) (j : Nat) :
    vl 18446744073709551616 l * 2 ^ up / 18446744073709551616 ^ j % 18446744073709551616 = rd l (j : Int) * 2 ^ up % 18446744073709551616 + (if j = 0 then 0 else rd l ((j - 1 : Nat) : Int) / 2 ^ (64 - up)) := by
  have hp := pow_pos B0 j
  have hu2 := two_pos up
  have hs := vl_split (B := 18446744073709551616) l j
  have ht := vl_take_bd h B0 j
  have hd := vl_drop (B := 18446744073709551616) l j
  have hr := rd_bd h B0 j
  -- what goes beyond the lower digits
  have key : ∃ e : Int, 0 ≤ e ∧ e < 2 ^ up ∧ vl 18446744073709551616 (l.take j) * 2 ^ up / 18446744073709551616 ^ j = e ∧ e = (if j = 0 then 0 else rd l ((j - 1 : Nat) : Int) / 2 ^ (64 - up)) := by
    by_cases hj : j = 0
    · subst hj
      refine ⟨0, by omega, hu2, by simp [vl], by rw [if_pos rfl]⟩
    · obtain ⟨i, rfl⟩ : ∃ i, j = i + 1 := ⟨j - 1, by omega⟩
      have hri := rd_bd h B0 i
      have hv2 := two_pos (64 - up)
      have hsp : (18446744073709551616 : Int) = 2 ^ up * 2 ^ (64 - up) := by rw [bw2, ← Int.pow_add]; congr 1; omega
      have hpi := pow_pos B0 i
      have hti := vl_take_bd h B0 i
      refine ⟨rd l (i : Int) / 2 ^ (64 - up), ediv_nn hri.1 (Int.le_of_lt hv2), ?_, ?_, by rw [if_neg (by omega)]; rfl⟩
      · exact Int.ediv_lt_of_lt_mul hv2 (by rw [← hsp]; exact hri.2)
      · have e1 : (18446744073709551616 : Int) ^ (i + 1) = 18446744073709551616 ^ i * 2 ^ (64 - up) * 2 ^ up := by rw [Int.pow_succ, Int.mul_assoc, Int.mul_comm (2 ^ (64 - up)), ← hsp]
        rw [e1, Int.mul_ediv_mul_of_pos_left _ _ hu2, ← Int.ediv_ediv_of_nonneg (Int.le_of_lt hpi), vl_take_succ]
        rw [div_of (r := vl 18446744073709551616 (l.take i)) rfl hti.1 hti.2]
  obtain ⟨e, he0, he1, he2, he3⟩ := key
  rw [← he3]
  have e4 : vl 18446744073709551616 l * 2 ^ up / 18446744073709551616 ^ j = e + vl 18446744073709551616 (l.drop j) * 2 ^ up := by
    rw [hs, Int.add_mul, Int.mul_assoc, Int.add_mul_ediv_left _ _ (by omega), he2]
  rw [e4, hd]
  -- the lower part is a multiple of 2^up
  have hsp : (18446744073709551616 : Int) = 2 ^ up * 2 ^ (64 - up) := by rw [bw2, ← Int.pow_add]; congr 1; omega
  have m1 : rd l (j : Int) * 2 ^ up % 18446744073709551616 = 2 ^ up * (rd l (j : Int) % 2 ^ (64 - up)) := by
    rw [Int.mul_comm (rd l (j : Int))]; conv => lhs; rw [hsp]
    rw [Int.mul_emod_mul_of_pos _ _ hu2]
  have m2 := Int.emod_add_mul_ediv (rd l (j : Int) * 2 ^ up) 18446744073709551616
  have m3 := Int.emod_lt_of_pos (rd l (j : Int)) (two_pos (64 - up))
  have m4 := Int.emod_nonneg (rd l (j : Int)) (show (2 : Int) ^ (64 - up) ≠ 0 by have := two_pos (64 - up); omega)
  have m5 : 2 ^ up * (rd l (j : Int) % 2 ^ (64 - up) + 1) ≤ 2 ^ up * 2 ^ (64 - up) := Int.mul_le_mul_of_nonneg_left (by omega) (Int.le_of_lt hu2)
  rw [← hsp, Int.mul_add] at m5
  have m6 := Int.mul_nonneg (Int.le_of_lt hu2) m4
  rw [← m1] at m5 m6
  refine mod_of (q := rd l (j : Int) * 2 ^ up / 18446744073709551616 + vl 18446744073709551616 (l.drop (j + 1)) * 2 ^ up) ?_ (by omega) (by omega)
  grind
/-- The digit as the code makes it. -/
theorem digit_or (l : List Int) (h : dg 18446744073709551616 l) (up : Nat) (hu : up < 64) (z : Int) :
    Go.bits .or .u64 (shl .u64 (atz l z) (up : Int)) (shr .u64 (atz l (z - 1)) ((64 - up : Nat) : Int)) = (if z < 0 then 0 else vl 18446744073709551616 l * 2 ^ up / 18446744073709551616 ^ z.toNat % 18446744073709551616) := by
  rw [shl_eq _ _ (by omega), shr_eq _ _ (by omega)]
  have hu2 := two_pos up
  have hv2 := two_pos (64 - up)
  by_cases hz : z < 0
  · rw [if_pos hz]
    unfold atz
    rw [if_pos hz, if_pos (by omega)]
    simp
    decide
  · rw [if_neg hz]
    obtain ⟨j, rfl⟩ := Int.eq_ofNat_of_zero_le (show 0 ≤ z by omega)
    rw [Int.toNat_natCast, digit_up l h up hu j]
    have hr := rd_bd h B0 j
    have hsp : (18446744073709551616 : Int) = 2 ^ up * 2 ^ (64 - up) := by rw [bw2, ← Int.pow_add]; congr 1; omega
    have e1 : atz l (j : Int) = rd l (j : Int) := by unfold atz; rw [if_neg hz]
    have e2 : atz l ((j : Int) - 1) / 2 ^ (64 - up) = (if j = 0 then 0 else rd l ((j - 1 : Nat) : Int) / 2 ^ (64 - up)) := by
      unfold atz
      by_cases h0 : j = 0
      · subst h0; rw [if_pos (by omega), if_pos rfl]; simp
      · rw [if_neg (by omega), if_neg h0, show (j : Int) - 1 = ((j - 1 : Nat) : Int) by omega]
    have e3 : 0 ≤ (if j = 0 then 0 else rd l ((j - 1 : Nat) : Int) / 2 ^ (64 - up)) ∧ (if j = 0 then 0 else rd l ((j - 1 : Nat) : Int) / 2 ^ (64 - up)) < 2 ^ up := by
      by_cases h0 : j = 0
      · rw [if_pos h0]; omega
      · have hri := rd_bd h B0 (j - 1)
        rw [if_neg h0]
        exact ⟨ediv_nn hri.1 (Int.le_of_lt hv2), Int.ediv_lt_of_lt_mul hv2 (by rw [← hsp]; exact hri.2)⟩
    have hub : (2 : Int) ^ up ≤ 18446744073709551616 := by rw [bw2]; exact pow_le (by omega) (by omega)
    rw [e1, e2]
    refine or_add _ _ up (Int.emod_nonneg _ (by omega)) (Int.emod_lt_of_pos _ B0) e3.1 e3.2 (by omega) ?_
    have m1 : rd l (j : Int) * 2 ^ up % 18446744073709551616 = 2 ^ up * (rd l (j : Int) % 2 ^ (64 - up)) := by
      rw [Int.mul_comm (rd l (j : Int))]; conv => lhs; rw [hsp]
      rw [Int.mul_emod_mul_of_pos _ _ hu2]
    rw [m1, Int.mul_emod_right]
/-- A digit of the whole, by the place less the words. -/
theorem shv_digit (n w : Int) (up : Nat) (hu : up < 64) (i : Nat) :
    shv n (64 * w + up) / 18446744073709551616 ^ i % 18446744073709551616 = (if (i : Int) - w < 0 then 0 else n * 2 ^ up / 18446744073709551616 ^ ((i : Int) - w).toNat % 18446744073709551616) := by
  unfold shv
  have hi := pow_pos B0 i
  by_cases hw : 0 ≤ w
  · obtain ⟨t, rfl⟩ := Int.eq_ofNat_of_zero_le hw
    rw [if_pos (by omega), show (64 * (t : Int) + (up : Int)).toNat = up + 64 * t by omega, Int.pow_add, ← Int.mul_assoc, Int.pow_mul, ← bw2]
    by_cases hlt : (i : Int) - (t : Int) < 0
    · rw [if_pos hlt]
      obtain ⟨d, rfl⟩ : ∃ d, t = i + (d + 1) := ⟨t - i - 1, by omega⟩
      rw [Int.pow_add, ← Int.mul_assoc, Int.mul_right_comm _ _ (18446744073709551616 ^ (d + 1)), Int.mul_ediv_cancel _ (by omega), Int.pow_succ, ← Int.mul_assoc, Int.mul_emod_left]
    · rw [if_neg hlt]
      obtain ⟨d, rfl⟩ : ∃ d, i = d + t := ⟨i - t, by omega⟩
      rw [show (((d + t : Nat) : Int) - (t : Int)).toNat = d by omega, Int.pow_add, Int.mul_ediv_mul_of_pos_left _ _ (pow_pos B0 t)]
  · obtain ⟨t, ht⟩ : ∃ t : Nat, w = -((t : Int) + 1) := ⟨(-w - 1).toNat, by omega⟩
    have hneg : ¬ 0 ≤ 64 * w + (up : Int) := by omega
    rw [if_neg hneg, if_neg (by omega), show ((i : Int) - w).toNat = i + (t + 1) by omega]
    have e0 : (18446744073709551616 : Int) ^ (t + 1) = 2 ^ (-(64 * w + (up : Int))).toNat * 2 ^ up := by
      rw [bw2, ← Int.pow_mul, ← Int.pow_add]; congr 1; omega
    have e1 : (18446744073709551616 : Int) ^ (i + (t + 1)) = 2 ^ (-(64 * w + (up : Int))).toNat * 2 ^ up * 18446744073709551616 ^ i := by
      rw [Int.pow_add, Int.mul_comm, e0]
    rw [e1, ← Int.ediv_ediv_of_nonneg (Int.le_of_lt (Int.mul_pos (two_pos _) (two_pos up))), Int.mul_ediv_mul_of_pos_left _ _ (two_pos up)]
theorem shv_nonneg {n : Int} (h : 0 ≤ n) (b : Int) : 0 ≤ shv n b := by
  unfold shv; split
  · exact Int.mul_nonneg h (Int.le_of_lt (two_pos _))
  · exact ediv_nn h (Int.le_of_lt (two_pos _))
theorem shv_lt {n w : Int} (la up : Nat) (hu : up < 64) (hn : 0 ≤ n) (h : n < 18446744073709551616 ^ la) (m : Nat) (hm : (la : Int) + w + 1 ≤ m) : shv n (64 * w + up) < 18446744073709551616 ^ m := by
  have hu2 := two_pos up
  have hub : (2 : Int) ^ up ≤ 18446744073709551616 := by rw [bw2]; exact pow_le (by omega) (by omega)
  have hV : n * 2 ^ up < 18446744073709551616 ^ (la + 1) := by
    have a1 : n * 2 ^ up < 18446744073709551616 ^ la * 2 ^ up := Int.mul_lt_mul_of_pos_right h hu2
    have a2 : (18446744073709551616 : Int) ^ la * 2 ^ up ≤ 18446744073709551616 ^ la * 18446744073709551616 := Int.mul_le_mul_of_nonneg_left hub (Int.le_of_lt (pow_pos B0 la))
    rw [Int.pow_succ]; omega
  unfold shv
  by_cases hw : 0 ≤ w
  · obtain ⟨t, rfl⟩ := Int.eq_ofNat_of_zero_le hw
    rw [if_pos (by omega), show (64 * (t : Int) + (up : Int)).toNat = up + 64 * t by omega, Int.pow_add, ← Int.mul_assoc, Int.pow_mul, ← bw2]
    have a1 := Int.mul_lt_mul_of_pos_right hV (pow_pos B0 t)
    rw [← Int.pow_add] at a1
    have := pow_le B0 (show la + 1 + t ≤ m by omega)
    omega
  · obtain ⟨t, ht⟩ : ∃ t : Nat, w = -((t : Int) + 1) := ⟨(-w - 1).toNat, by omega⟩
    have hneg : ¬ 0 ≤ 64 * w + (up : Int) := by omega
    rw [if_neg hneg]
    have e1 : (18446744073709551616 : Int) ^ (t + 1) = 2 ^ (-(64 * w + (up : Int))).toNat * 2 ^ up := by
      rw [bw2, ← Int.pow_mul, ← Int.pow_add]; congr 1; omega
    have e2 : n / 2 ^ (-(64 * w + (up : Int))).toNat = n * 2 ^ up / 18446744073709551616 ^ (t + 1) := by rw [e1, Int.mul_ediv_mul_of_pos_left _ _ hu2]
    rw [e2]
    refine Int.ediv_lt_of_lt_mul (pow_pos B0 _) ?_
    rw [← Int.pow_add]
    have := pow_le B0 (show la + 1 ≤ m + (t + 1) by omega)
    omega
theorem shift_loop (l : List Int) (h : dg 18446744073709551616 l) (hl : l.length ≤ 1073741824) (w : Int) (hw0 : -4294967296 ≤ w) (hw1 : w ≤ 4294967296) (up : Nat) (hu : up < 64) (n : Nat) (hn : n ≤ 17179869184) (hnl : (l.length : Int) + w + 1 ≤ n) : ∀ (d i : Nat) (out : List Int), i + d = n → out.length = n → dg 18446744073709551616 (out.take i) →
    vl 18446744073709551616 (out.take i) = shv (vl 18446744073709551616 l) (64 * w + up) % 18446744073709551616 ^ i → Evn (fun k => number_Shift.l0 k l w up out n i) (dgs 18446744073709551616 (shv (vl 18446744073709551616 l) (64 * w + up)), 0) := by
  have hv := vl_nonneg h B0
  intro d
  induction d with
  | zero =>
    intro i out hi ho hd hvv
    obtain rfl : i = n := by omega
    have ht : out.take i = out := by rw [← ho]; exact List.take_length
    rw [ht] at hd hvv
    rw [Int.emod_eq_of_lt (shv_nonneg hv _) (shv_lt l.length up hu hv (vl_lt h B0) i hnl)] at hvv
    refine Evn.succ (h := fun _ => some (cutL out, 0)) (fun k => by rw [number_Shift.l0, if_neg (by omega)]; rfl) (Evn.of fun _ => ?_)
    rw [cut_eq B2 hd hvv]
  | succ d ih =>
    intro i out hi ho hd hvv
    have hdig := digit_or l h up hu ((i : Int) - w)
    have hsd := shv_digit (vl 18446744073709551616 l) w up hu i
    rw [← hsd] at hdig
    have hm0 := Int.emod_nonneg (shv (vl 18446744073709551616 l) (64 * w + up) / 18446744073709551616 ^ i) (show (18446744073709551616 : Int) ≠ 0 by omega)
    have hm1 := Int.emod_lt_of_pos (shv (vl 18446744073709551616 l) (64 * w + up) / 18446744073709551616 ^ i) B0
    refine Evn.succ (fun k => ?_) (ih (i + 1) (out.set i (shv (vl 18446744073709551616 l) (64 * w + up) / 18446744073709551616 ^ i % 18446744073709551616)) (by omega) (by rw [List.length_set]; exact ho) (dg_set_take hd (by omega) hm0 hm1) (by
      rw [vl_set_take _ _ _ (by omega), hvv, Int.pow_succ, mod_succ _ _ _ (pow_pos B0 i)]))
    rw [number_Shift.l0, if_pos (by omega), w64 ((i : Int) - w) (by omega) (by omega), at_z, bsome, if_pos (by omega), w64 ((i : Int) - w - 1) (by omega) (by omega), at_z, bsome, w64 (64 - (up : Int)) (by omega) (by omega), if_pos (by omega), if_pos (by omega), if_pos (by omega), show (64 : Int) - (up : Int) = ((64 - up : Nat) : Int) by omega, hdig, Int.toNat_natCast, w64 _ (by omega) (by omega)]
    rfl
/-- What Shift answers. -/
def shiftR (n b : Int) : List Int × Int := if b < -65536 ∨ 65536 < b then ([], 10) else (dgs 18446744073709551616 (shv n b), 0)
theorem shift_j1 (l : List Int) (h : dg 18446744073709551616 l) (hl : l.length ≤ 1073741824) (w : Int) (hw0 : -4294967296 ≤ w) (hw1 : w ≤ 4294967296) (up : Nat) (hu : up < 64) : Evn (fun k => number_Shift.j1 k l w (up : Int)) (dgs 18446744073709551616 (shv (vl 18446744073709551616 l) (64 * w + up)), 0) := by
  have e1 : mx 0 (wrap64 (wrap64 ((l.length : Int) + w) + 1)) = (((l.length : Int) + w + 1).toNat : Int) := by
    rw [w64 ((l.length : Int) + w) (by omega) (by omega), w64 _ (by omega) (by omega)]; unfold mx; split <;> omega
  refine Evn.succ (fun k => ?_) (shift_loop l h hl w hw0 hw1 up hu ((l.length : Int) + w + 1).toNat (by omega) (by omega) ((l.length : Int) + w + 1).toNat 0 (List.replicate ((l.length : Int) + w + 1).toNat 0) (by omega) (by simp) (by simp; exact dg_nil) (by simp [vl]))
  rw [number_Shift.j1, e1, if_pos (by omega), if_pos (by omega), bsome, Int.toNat_natCast, List.length_replicate]
  rfl
theorem shift_ev (l : List Int) (h : dg 18446744073709551616 l) (hl : l.length ≤ 1073741824) (b : Int) : Evn (fun k => number_Shift.f k l b) (shiftR (vl 18446744073709551616 l) b) := by
  have hout : Evn (fun k => number_Shift.j0 k l b true) (([] : List Int), (10 : Int)) := Evn.succ (h := fun _ => some ([], 10)) (fun k => by rw [number_Shift.j0, if_pos rfl]) (Evn.of fun _ => rfl)
  unfold shiftR
  by_cases hlo : b < -65536
  · rw [if_pos (.inl hlo)]
    exact Evn.congr (fun k => by unfold number_Shift.f; rw [if_pos hlo]) hout
  · by_cases hhi : b > 65536
    · rw [if_pos (.inr hhi)]
      exact Evn.congr (fun k => by unfold number_Shift.f; rw [if_neg hlo, decide_eq_true hhi]) hout
    · rw [if_neg (by omega)]
      have hj := shift_j1 l h hl (b / 64) (by omega) (by omega) (b % 64).toNat (by omega)
      rw [show 64 * (b / 64) + ((b % 64).toNat : Int) = b by omega] at hj
      refine Evn.congr (fun k => by unfold number_Shift.f; rw [if_neg hlo, decide_eq_false hhi]) (Evn.succ (fun k => ?_) hj)
      rw [number_Shift.j0, if_neg (by decide)]
      by_cases hb : 0 ≤ b
      · obtain ⟨c, rfl⟩ := Int.eq_ofNat_of_zero_le hb
        have t1 := tdiv_nat c 64
        have t2 := tmod_nat c 64
        rw [show ((64 : Nat) : Int) = 64 from rfl] at t1 t2
        rw [t1, t2, if_neg (by omega), w64 _ (by omega) (by omega)]
        congr 1 <;> omega
      · obtain ⟨c, hc⟩ : ∃ c : Nat, b = -(c : Int) := ⟨(-b).toNat, by omega⟩
        have t1 : Int.tdiv b 64 = -((c / 64 : Nat) : Int) := by rw [hc, Int.neg_tdiv]; have := tdiv_nat c 64; rw [show ((64 : Nat) : Int) = 64 from rfl] at this; rw [this]
        have t2 : Int.tmod b 64 = -((c % 64 : Nat) : Int) := by rw [hc, Int.neg_tmod]; have := tmod_nat c 64; rw [show ((64 : Nat) : Int) = 64 from rfl] at this; rw [this]
        by_cases hz : c % 64 = 0
        · rw [t1, t2, if_neg (by omega), w64 _ (by omega) (by omega)]
          congr 1 <;> omega
        · rw [t1, t2, if_pos (by omega), w64 (-((c / 64 : Nat) : Int)) (by omega) (by omega), w64 _ (by omega) (by omega), w64 _ (by omega) (by omega)]
          congr 1 <;> omega
end Go.Proofs.Ytdaehflffecllaa.A
