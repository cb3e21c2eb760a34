/- The law NumberOwn returns true whatever the input: A0 of its proof; no condition. (Joined by wip/shake.py.) -/
import Derived.Test.YtdaehflffecllaaMNumberOwnN0
import Derived.Test.YtdaehflffecllaaMNumberOwnT1
import Derived.Lib.BitFns
import Derived.Test.YtdaehflffecllaaMNumberOwnN1
import Derived.Test.YtdaehflffecllaaMNumberOwnB0
import Derived.Lib.Mul64
import Derived.Test.YtdaehflffecllaaMNumberOwnN2
namespace Go.Proofs.Ytdaehflffecllaa.A
open Go.RowKit Go.Proofs.YtdaehflffecllaaW.PrintWords Go.Proofs.Ytdaehflffecllaa.N Go.Proofs.Ytdaehflffecllaa.T
theorem B2 : (2 : Int) ≤ 18446744073709551616 := by omega
theorem B0 : (0 : Int) < 18446744073709551616 := by omega
theorem at_nn (l : List Int) (i : Nat) : number_Nat_at.f l (i : Int) = some (rd l (i : Int)) := by
  unfold number_Nat_at.f
  rw [if_neg (by omega)]
  by_cases h : (i : Int) ≥ (l.length : Int)
  · rw [if_pos h, rd_beyond l i (by omega)]
  · rw [if_neg h, if_pos (by omega), if_pos (by omega)]
theorem at_neg (l : List Int) (i : Int) (h : i < 0) : number_Nat_at.f l i = some 0 := by unfold number_Nat_at.f; rw [if_pos h]
theorem bit_ev (l : List Int) (h : dg 18446744073709551616 l) (i : Int) (hi : i ≤ 9223372036854775807) : number_Bit.f l i = some (bitv (vl 18446744073709551616 l) i) := by
  unfold number_Bit.f
  by_cases h0 : i < 0
  · rw [if_pos h0]; unfold bitv; rw [if_pos h0]
  · rw [if_neg h0]
    obtain ⟨j, rfl⟩ := Int.eq_ofNat_of_zero_le (show 0 ≤ i by omega)
    have e1 := tdiv_nat j 64
    have e2 := tmod_nat j 64
    rw [show ((64 : Nat) : Int) = 64 from rfl] at e1 e2
    rw [e1, e2, w64 _ (by omega) (by omega), at_nn]
    simp only [Option.bind_some]
    rw [if_pos (by omega), shr_eq _ _ (by omega)]
    have hb := rd_bd h B0 (j / 64)
    have hq := ediv_nn (b := 2 ^ (j % 64)) hb.1 (Int.le_of_lt (two_pos _))
    have hle := ediv_le_self' (b := 2 ^ (j % 64)) hb.1
    rw [and_one _ hq (by omega), w64 _ (by omega) (by omega), rd_vl h B0, bitv_nat]
    have := digit_bit (vl 18446744073709551616 l) 64 (j / 64) (j % 64) (by omega)
    rw [show 64 * (j / 64) + j % 64 = j by omega, show (2 : Int) ^ 64 = 18446744073709551616 from rfl] at this
    rw [this]
theorem cmp_ev (x y : Int) : cmp_Compare_uint64.f x y = some (cmpI x y) := by
  unfold cmp_Compare_uint64.f cmp_isNaN_uint64.f cmpI
  simp only [bne_self_eq_false, Option.bind_some, gt_iff_lt]
  rw [if_neg (by decide), if_neg (by decide)]
  split
  · rfl
  · split <;> rfl
theorem compare_loop (a b : List Int) (ha : dg 18446744073709551616 a) (hb : dg 18446744073709551616 b) : ∀ m : Nat, m ≤ 9223372036854775807 → vl 18446744073709551616 (a.drop m) = vl 18446744073709551616 (b.drop m) → Evn (fun k => number_Compare.l0 k a b ((m : Int) - 1)) (cmpI (vl 18446744073709551616 a) (vl 18446744073709551616 b)) := by
  intro m
  induction m with
  | zero =>
    intro _ h
    refine Evn.succ (h := fun _ => some 0) (fun k => by rw [number_Compare.l0, if_neg (by omega)]) (Evn.of fun _ => ?_)
    simp only [List.drop_zero] at h
    rw [h, cmpI_self]
  | succ m ih =>
    intro hm h
    have e1 := vl_drop (B := 18446744073709551616) a m
    have e2 := vl_drop (B := 18446744073709551616) b m
    have e0 : ((m + 1 : Nat) : Int) - 1 = (m : Int) := by omega
    by_cases he : rd a (m : Int) = rd b (m : Int)
    · refine Evn.succ (fun k => ?_) (ih (by omega) (by rw [e1, e2, he, h]))
      rw [number_Compare.l0, if_pos (by omega), e0, at_nn, at_nn]
      simp only [Option.bind_some]
      rw [cmp_ev]
      simp only [Option.bind_some]
      rw [if_pos (cmpI_zero.2 he), w64 _ (by omega) (by omega)]
    · rw [← vl_div ha B0] at e1
      rw [← vl_div hb B0] at e2
      rw [cmpI_div (pow_pos B0 m) e1 (by rw [e2, h]) he]
      refine Evn.succ (h := fun _ => some (cmpI (rd a (m : Int)) (rd b (m : Int)))) (fun k => ?_) (Evn.of fun _ => rfl)
      rw [number_Compare.l0, if_pos (by omega), e0, at_nn, at_nn]
      simp only [Option.bind_some]
      rw [cmp_ev]
      simp only [Option.bind_some]
      rw [if_neg (fun e => he (cmpI_zero.1 e))]
theorem mx_nat (a b : Nat) : mx (a : Int) (b : Int) = ((max a b : Nat) : Int) := by unfold mx; split <;> omega
theorem compare_ev (a b : List Int) (ha : dg 18446744073709551616 a) (hb : dg 18446744073709551616 b) (hal : a.length ≤ 1099511627776) (hbl : b.length ≤ 1099511627776) : Evn (fun k => number_Compare.f k a b) (cmpI (vl 18446744073709551616 a) (vl 18446744073709551616 b)) := by
  refine Evn.congr (fun k => by unfold number_Compare.f; rw [mx_nat, w64 _ (by omega) (by omega)]) (compare_loop a b ha hb (max a.length b.length) (by omega) ?_)
  rw [List.drop_eq_nil_of_le (by omega), List.drop_eq_nil_of_le (by omega)]
theorem add64_eval (x y c : Int) (hx : 0 ≤ x) (hy : 0 ≤ y) (hc : 0 ≤ c) (hc1 : c ≤ 1) : bits_Add64.f x y c = some ((x + y + c) % 18446744073709551616, (x + y + c) / 18446744073709551616) := by
  unfold bits_Add64.f; rw [if_pos ⟨hx, hy, hc, hc1⟩]
theorem add_loop (a b : List Int) (ha : dg 18446744073709551616 a) (hb : dg 18446744073709551616 b) (n : Nat) (hn : n ≤ 1099511627776) : ∀ (d i : Nat) (out : List Int) (c : Int), i + d = n → out.length = n → 0 ≤ c → c ≤ 1 → dg 18446744073709551616 (out.take i) →
    vl 18446744073709551616 (out.take i) + 18446744073709551616 ^ i * c = vl 18446744073709551616 (a.take i) + vl 18446744073709551616 (b.take i) →
    ∃ (o : List Int) (c' : Int), o.length = n ∧ dg 18446744073709551616 o ∧ 0 ≤ c' ∧ vl 18446744073709551616 o + 18446744073709551616 ^ n * c' = vl 18446744073709551616 (a.take n) + vl 18446744073709551616 (b.take n) ∧ Evn (fun k => number_Add.l0 k a b out c n i) (cutL o) := by
  intro d
  induction d with
  | zero =>
    intro i out c hi ho hc _ hd h
    obtain rfl : i = n := by omega
    have ht : out.take i = out := by rw [← ho]; exact List.take_length
    rw [ht] at hd h
    refine ⟨out, c, ho, hd, hc, h, ?_⟩
    exact Evn.succ (fun k => by rw [number_Add.l0, if_neg (by omega)]; rfl) (Evn.of fun _ => rfl)
  | succ d ih =>
    intro i out c hi ho hc hc1 hd h
    have ra := rd_bd ha B0 i
    have rb := rd_bd hb B0 i
    have hs0 : 0 ≤ (rd a (i : Int) + rd b (i : Int) + c) % 18446744073709551616 := by omega
    have hs1 : (rd a (i : Int) + rd b (i : Int) + c) % 18446744073709551616 < 18446744073709551616 := by omega
    obtain ⟨o, c', h1, h2, h3, h4, h5⟩ := ih (i + 1) (out.set i ((rd a (i : Int) + rd b (i : Int) + c) % 18446744073709551616)) ((rd a (i : Int) + rd b (i : Int) + c) / 18446744073709551616) (by omega) (by rw [List.length_set]; exact ho) (by omega) (by omega)
      (dg_set_take hd (by omega) hs0 hs1) (by
        rw [vl_set_take _ _ _ (by omega), vl_take_succ, vl_take_succ, Int.pow_succ]
        have e := Int.emod_add_mul_ediv (rd a (i : Int) + rd b (i : Int) + c) 18446744073709551616
        generalize (rd a (i : Int) + rd b (i : Int) + c) % 18446744073709551616 = s at *
        generalize (rd a (i : Int) + rd b (i : Int) + c) / 18446744073709551616 = q at *
        generalize (18446744073709551616 : Int) ^ i = p at *
        grind)
    refine ⟨o, c', h1, h2, h3, h4, Evn.succ (fun k => ?_) h5⟩
    simp only [number_Add.l0]
    rw [if_pos (by omega), at_nn, at_nn]
    simp only [Option.bind_some]
    rw [add64_eval _ _ _ ra.1 rb.1 hc hc1]
    simp only [Option.bind_some]
    rw [if_pos (by omega), if_pos (by omega), Int.toNat_natCast, w64 _ (by omega) (by omega)]
    rfl
theorem take_all (l : List Int) (n : Nat) (h : l.length ≤ n) : l.take n = l := List.take_of_length_le h
theorem add_ev (a b : List Int) (ha : dg 18446744073709551616 a) (hb : dg 18446744073709551616 b) (hal : a.length ≤ 1073741824) (hbl : b.length ≤ 1073741824) : Evn (fun k => number_Add.f k a b) (dgs 18446744073709551616 (vl 18446744073709551616 a + vl 18446744073709551616 b)) := by
  obtain ⟨o, c', h1, h2, h3, h4, h5⟩ := add_loop a b ha hb (max a.length b.length + 1) (by omega) (max a.length b.length + 1) 0 (List.replicate (max a.length b.length + 1) 0) 0 (by omega) (by simp) (by omega) (by omega) (by simp; exact dg_nil) (by simp [vl])
  rw [take_all a _ (by omega), take_all b _ (by omega)] at h4
  have hav := vl_lt ha B0
  have hbv := vl_lt hb B0
  have p1 := pow_le B0 (show a.length ≤ max a.length b.length by omega)
  have p2 := pow_le B0 (show b.length ≤ max a.length b.length by omega)
  have hp := pow_pos B0 (max a.length b.length)
  have ho := vl_nonneg h2 B0
  have hc : c' = 0 := by
    rw [Int.pow_succ] at h4
    generalize (18446744073709551616 : Int) ^ max a.length b.length = p at *
    by_cases hz : c' = 0
    · exact hz
    · have := Int.mul_le_mul_of_nonneg_left (show 1 ≤ c' by omega) (show 0 ≤ p * 18446744073709551616 by omega)
      omega
  rw [hc] at h4
  rw [← cut_eq B2 h2 (show vl 18446744073709551616 o = vl 18446744073709551616 a + vl 18446744073709551616 b by omega)]
  refine Evn.congr (fun k => ?_) h5
  unfold number_Add.f
  rw [mx_nat, w64 _ (by omega) (by omega), if_pos (by omega), if_pos (by omega)]
  simp only [Option.bind_some, List.length_replicate]
  rw [show ((max a.length b.length : Nat) : Int) + 1 = ((max a.length b.length + 1 : Nat) : Int) by omega, Int.toNat_natCast]
  rfl
theorem sub64_eval (x y c : Int) (hx : 0 ≤ x) (hy : 0 ≤ y) (hy1 : y < 18446744073709551616) (hc : 0 ≤ c) (hc1 : c ≤ 1) : bits_Sub64.f x y c = some ((x - y - c) % 18446744073709551616, if x < y + c then 1 else 0) := by
  unfold bits_Sub64.f; rw [if_pos ⟨hx, hy, hy1, hc, hc1⟩]
theorem sub_loop (a b : List Int) (ha : dg 18446744073709551616 a) (hb : dg 18446744073709551616 b) (n : Nat) (hn : n ≤ 1099511627776) (hna : n = a.length) : ∀ (d i : Nat) (out : List Int) (c : Int), i + d = n → out.length = n → 0 ≤ c → c ≤ 1 → dg 18446744073709551616 (out.take i) →
    vl 18446744073709551616 (out.take i) - 18446744073709551616 ^ i * c = vl 18446744073709551616 (a.take i) - vl 18446744073709551616 (b.take i) →
    ∃ (o : List Int) (c' : Int), o.length = n ∧ dg 18446744073709551616 o ∧ 0 ≤ c' ∧ vl 18446744073709551616 o - 18446744073709551616 ^ n * c' = vl 18446744073709551616 (a.take n) - vl 18446744073709551616 (b.take n) ∧ Evn (fun k => number_Sub.l0 k a b out c n i) (cutL o, 0) := by
  intro d
  induction d with
  | zero =>
    intro i out c hi ho hc _ hd h
    obtain rfl : i = n := by omega
    have ht : out.take i = out := by rw [← ho]; exact List.take_length
    rw [ht] at hd h
    refine ⟨out, c, ho, hd, hc, h, ?_⟩
    exact Evn.succ (fun k => by rw [number_Sub.l0, if_neg (by omega)]; rfl) (Evn.of fun _ => rfl)
  | succ d ih =>
    intro i out c hi ho hc hc1 hd h
    have ra := rd_bd ha B0 i
    have rb := rd_bd hb B0 i
    have hq0 : (0 : Int) ≤ (if rd a (i : Int) < rd b (i : Int) + c then 1 else 0) := by split <;> omega
    have hq1 : (if rd a (i : Int) < rd b (i : Int) + c then 1 else 0 : Int) ≤ 1 := by split <;> omega
    have hs0 : 0 ≤ (rd a (i : Int) - rd b (i : Int) - c) % 18446744073709551616 := by omega
    have hs1 : (rd a (i : Int) - rd b (i : Int) - c) % 18446744073709551616 < 18446744073709551616 := by omega
    obtain ⟨o, c', h1, h2, h3, h4, h5⟩ := ih (i + 1) (out.set i ((rd a (i : Int) - rd b (i : Int) - c) % 18446744073709551616)) (if rd a (i : Int) < rd b (i : Int) + c then 1 else 0) (by omega) (by rw [List.length_set]; exact ho) hq0 hq1
      (dg_set_take hd (by omega) hs0 hs1) (by
        rw [vl_set_take _ _ _ (by omega), vl_take_succ, vl_take_succ, Int.pow_succ]
        have e : (rd a (i : Int) - rd b (i : Int) - c) % 18446744073709551616 = rd a (i : Int) - rd b (i : Int) - c + 18446744073709551616 * (if rd a (i : Int) < rd b (i : Int) + c then 1 else 0) := by split <;> omega
        generalize (rd a (i : Int) - rd b (i : Int) - c) % 18446744073709551616 = s at *
        generalize (if rd a (i : Int) < rd b (i : Int) + c then 1 else 0 : Int) = q at *
        generalize (18446744073709551616 : Int) ^ i = p at *
        grind)
    refine ⟨o, c', h1, h2, h3, h4, Evn.succ (fun k => ?_) h5⟩
    simp only [number_Sub.l0]
    rw [if_pos (by omega), if_pos (by omega), if_pos (by omega), at_nn]
    simp only [Option.bind_some]
    rw [sub64_eval _ _ _ ra.1 rb.1 rb.2 hc hc1]
    simp only [Option.bind_some]
    rw [if_pos (by omega), Int.toNat_natCast, w64 _ (by omega) (by omega)]
    rfl
/-- One less another one, or ErrRange. -/
def subR (a b : Int) : List Int × Int := if a < b then ([], 10) else (dgs 18446744073709551616 (a - b), 0)
theorem sub_ev (a b : List Int) (ha : dg 18446744073709551616 a) (hb : dg 18446744073709551616 b) (hal : a.length ≤ 1073741824) (hbl : b.length ≤ 1073741824) : Evn (fun k => number_Sub.f k a b) (subR (vl 18446744073709551616 a) (vl 18446744073709551616 b)) := by
  refine Evn.congr (fun k => by unfold number_Sub.f; rfl) (Evn.bind (compare_ev a b ha hb (by omega) (by omega)) ?_)
  unfold subR
  by_cases hlt : vl 18446744073709551616 a < vl 18446744073709551616 b
  · rw [if_pos hlt]
    exact Evn.of fun k => by rw [if_pos (cmpI_lt.2 hlt)]
  · rw [if_neg hlt]
    obtain ⟨o, c', h1, h2, h3, h4, h5⟩ := sub_loop a b ha hb a.length (by omega) rfl a.length 0 (List.replicate a.length 0) 0 (by omega) (by simp) (by omega) (by omega) (by simp; exact dg_nil) (by simp [vl])
    rw [List.take_length] at h4
    have hav := vl_lt ha B0
    have hbm : vl 18446744073709551616 (b.take a.length) = vl 18446744073709551616 b := by
      rw [← vl_mod hb B0]
      exact Int.emod_eq_of_lt (vl_nonneg hb B0) (by omega)
    rw [hbm] at h4
    have ho := vl_lt h2 B0
    rw [h1] at ho
    have hb0 := vl_nonneg hb B0
    have hp := pow_pos B0 a.length
    have hc : c' = 0 := by
      generalize (18446744073709551616 : Int) ^ a.length = p at *
      by_cases hz : c' = 0
      · exact hz
      · have := Int.mul_le_mul_of_nonneg_left (show 1 ≤ c' by omega) (show 0 ≤ p by omega)
        omega
    rw [hc] at h4
    rw [← cut_eq B2 h2 (show vl 18446744073709551616 o = vl 18446744073709551616 a - vl 18446744073709551616 b by omega)]
    refine Evn.congr (fun k => ?_) h5
    rw [if_neg (fun e => hlt (cmpI_lt.1 e)), if_pos (by omega), if_pos (by omega)]
    simp only [Option.bind_some, List.length_replicate, Int.toNat_natCast]
    rfl
theorem bitLen_nbit : ∀ (f n : Nat), n < 2 ^ f → (Lib.bitLenAux f n : Int) = nbit n := by
  intro f
  induction f with
  | zero => intro n h; rw [show n = 0 by simpa using h]; rfl
  | succ f ih =>
    intro n hn
    by_cases h : n = 0
    · subst h; rfl
    · rw [Lib.bitLenAux, if_neg h, Int.natCast_add, ih (n / 2) (by rw [Nat.pow_succ] at hn; omega)]
      by_cases h1 : n = 1
      · subst h1; decide
      · have hp : (0 : Int) < ((n / 2 : Nat) : Int) := by omega
        have g := nbit_ge hp
        have l := nbit_lt (n := ((n / 2 : Nat) : Int)) (by omega)
        have np := nbit_pos hp
        obtain ⟨m, hm⟩ : ∃ m : Nat, nbit ((n / 2 : Nat) : Int) = m + 1 := ⟨(nbit ((n / 2 : Nat) : Int)).toNat - 1, by omega⟩
        rw [hm] at g l ⊢
        rw [show ((m : Int) + 1).toNat - 1 = m by omega] at g
        rw [show ((m : Int) + 1).toNat = m + 1 by omega] at l
        have u := nbit_unique (n := (n : Int)) (m := m + 1) (by rw [Int.pow_succ]; omega) (by rw [Int.pow_succ]; omega)
        omega
theorem len_ev (a : List Int) (ha : dg 18446744073709551616 a) (hal : a.length ≤ 1073741824) : Evn (fun k => number_Len.f k a) (nbit (vl 18446744073709551616 a)) := by
  have hnn := vl_nonneg ha B0
  refine Evn.congr (fun k => by unfold number_Len.f number_Nat_cut.f; rw [cut_dgs B2 a ha]) (Evn.of fun k => ?_)
  simp only [Option.bind_some]
  rcases snoc_cases (dgs 18446744073709551616 (vl 18446744073709551616 a)) with hz | ⟨m, x, hm⟩
  · rw [hz, if_pos (by rfl), (dgs_nil_iff B2 _ hnn).1 hz, nbit_zero]
  · have hx := dgs_last B2 _ hnn m x hm
    have hd := dgs_dg B2 _ hnn
    have hv := vl_dgs B2 _ hnn
    have hlen := dgs_len_le B2 _ hnn a.length (vl_lt ha B0)
    rw [hm] at hd hv hlen ⊢
    have hdm : dg 18446744073709551616 m := fun y hy => hd y (List.mem_append_left _ hy)
    have hxb := hd x (List.mem_append_right _ (List.mem_singleton.2 rfl))
    simp only [List.length_append, List.length_singleton] at hlen ⊢
    have hr : rd (m ++ [x]) (m.length : Int) = x := by rw [rd_get _ _ (by simp)]; simp
    rw [if_neg (by omega), w64 _ (by omega) (by omega), if_pos (by omega), if_pos (by omega), show ((m.length + 1 : Nat) : Int) - 1 = (m.length : Int) by omega, hr]
    unfold bits_Len64.f
    rw [if_pos (by omega), show Lib.bitLen x.toNat = Lib.bitLenAux 64 x.toNat from rfl, bitLen_nbit 64 _ (by omega), Int.toNat_of_nonneg hxb.1]
    simp only [Option.bind_some]
    have hn64 : nbit x ≤ 64 := nbit_le (n := x) (m := 64) (by have : (2 : Int) ^ 64 = 18446744073709551616 := rfl
                                                              omega)
    have hn0 := nbit_nonneg x
    rw [w64 (64 * (m.length : Int)) (by omega) (by omega), w64 _ (by omega) (by omega)]
    have hxp : 0 < x := by omega
    have g := nbit_ge hxp
    have l := nbit_lt hxb.1
    have np := nbit_pos hxp
    obtain ⟨t, ht⟩ : ∃ t : Nat, nbit x = t + 1 := ⟨(nbit x).toNat - 1, by omega⟩
    rw [ht] at g l ⊢
    rw [show ((t : Int) + 1).toNat - 1 = t by omega] at g
    rw [show ((t : Int) + 1).toNat = t + 1 by omega] at l
    rw [vl_append, vl_one] at hv
    have hml := vl_lt hdm B0
    have hm0 := vl_nonneg hdm B0
    have hp : (18446744073709551616 : Int) ^ m.length = 2 ^ (64 * m.length) := by rw [Int.pow_mul]; rfl
    rw [hp] at hv hml
    have e1 : (2 : Int) ^ (64 * m.length + t) = 2 ^ (64 * m.length) * 2 ^ t := Int.pow_add ..
    have e2 : (2 : Int) ^ (64 * m.length + t + 1) = 2 ^ (64 * m.length) * 2 ^ (t + 1) := by rw [← Int.pow_add]; rfl
    have hpp := two_pos (64 * m.length)
    have u := nbit_unique (n := vl 18446744073709551616 a) (m := 64 * m.length + t) (by
      rw [e1, ← hv]
      have := Int.mul_le_mul_of_nonneg_left g (Int.le_of_lt hpp)
      omega) (by
      rw [e2, ← hv]
      have := Int.mul_le_mul_of_nonneg_left (show x + 1 ≤ 2 ^ (t + 1) by omega) (Int.le_of_lt hpp)
      rw [Int.mul_add] at this
      omega)
    rw [u]
    congr 1
end Go.Proofs.Ytdaehflffecllaa.A
namespace Go.Proofs.Ytdaehflffecllaa.A
open Go.RowKit Go.Proofs.YtdaehflffecllaaW.PrintWords Go.Proofs.Ytdaehflffecllaa.N Go.Proofs.Ytdaehflffecllaa.T
theorem maskN (a : Nat) (ha : a < 18446744073709551616) : Go.bits .and .u64 (a : Int) 4294967295 = ((a % 4294967296 : Nat) : Int) := by
  have h := bits_and_u64_nat a 4294967295 ha (by omega)
  have e : a &&& 4294967295 = a % 4294967296 := Nat.and_two_pow_sub_one_eq_mod a 32
  rw [e] at h
  exact h
theorem divN (a : Nat) : (a : Int) / 4294967296 = ((a / 4294967296 : Nat) : Int) := by omega
theorem mulN (a b : Nat) : (a : Int) * (b : Int) = ((a * b : Nat) : Int) := (Int.natCast_mul a b).symm
theorem addN (a b : Nat) : (a : Int) + (b : Int) = ((a + b : Nat) : Int) := (Int.natCast_add a b).symm
theorem wrapN (a : Nat) (ha : a < 18446744073709551616) : IntKind.u64.wrap (a : Int) = (a : Int) := by rw [IntKind.wrap_u64]; omega
theorem wrapM (a : Nat) : IntKind.u64.wrap (a : Int) = ((a % 18446744073709551616 : Nat) : Int) := by rw [IntKind.wrap_u64]; omega
theorem mul64_nat (x y : Nat) (hx : x < 18446744073709551616) (hy : y < 18446744073709551616) : bits_Mul64.f (x : Int) (y : Int) = some (((x * y / 18446744073709551616 : Nat) : Int), ((x * y % 18446744073709551616 : Nat) : Int)) := by
  obtain ⟨bd, bt, bw, hhi⟩ := Lib.mul64_hi x y hx hy
  have ba := Lib.half_mul_le (a := x / 4294967296) (b := y / 4294967296) (by omega) (by omega)
  have bb := Lib.half_mul_le (a := x / 4294967296) (b := y % 4294967296) (by omega) (by omega)
  have bc := Lib.half_mul_le (a := x % 4294967296) (b := y / 4294967296) (by omega) (by omega)
  have ba' : x / 4294967296 * (y / 4294967296) < 18446744073709551616 := by omega
  have bb' : x / 4294967296 * (y % 4294967296) < 18446744073709551616 := by omega
  have bc' : x % 4294967296 * (y / 4294967296) < 18446744073709551616 := by omega
  have bh1 : x / 4294967296 * (y / 4294967296) + (x / 4294967296 * (y % 4294967296) + x % 4294967296 * (y % 4294967296) / 4294967296) / 4294967296 < 18446744073709551616 := by omega
  have bh : x / 4294967296 * (y / 4294967296) + (x / 4294967296 * (y % 4294967296) + x % 4294967296 * (y % 4294967296) / 4294967296) / 4294967296 + ((x / 4294967296 * (y % 4294967296) + x % 4294967296 * (y % 4294967296) / 4294967296) % 4294967296 + x % 4294967296 * (y / 4294967296)) / 4294967296 < 18446744073709551616 := by omega
  unfold bits_Mul64.f
  simp only [maskN x hx, maskN y hy, divN, mulN, addN, wrapN _ bd, wrapN _ bb', wrapN _ bt, maskN _ bt, wrapN _ bc', wrapN _ bw, wrapN _ ba', wrapN _ bh1, wrapN _ bh, wrapM (x * y)]
  rw [hhi]
theorem mul64_eval (x y : Int) (hx : 0 ≤ x) (hx1 : x < 18446744073709551616) (hy : 0 ≤ y) (hy1 : y < 18446744073709551616) : bits_Mul64.f x y = some (x * y / 18446744073709551616, x * y % 18446744073709551616) := by
  obtain ⟨a, rfl⟩ := Int.eq_ofNat_of_zero_le hx
  obtain ⟨b, rfl⟩ := Int.eq_ofNat_of_zero_le hy
  rw [mul64_nat a b (by omega) (by omega), Int.natCast_ediv, Int.natCast_emod, Int.natCast_mul]; rfl
theorem mul_stepB {B : Int} (hB : 0 < B) (x y o c : Int) (hx : 0 ≤ x) (hx1 : x < B) (hy : 0 ≤ y) (hy1 : y < B) (ho : 0 ≤ o) (ho1 : o < B) (hc : 0 ≤ c) (hc1 : c < B) :
    ((x * y % B + o) % B + c) % B = (x * y + o + c) % B ∧ (x * y / B + (x * y % B + o) / B) + ((x * y % B + o) % B + c) / B = (x * y + o + c) / B ∧ 0 ≤ x * y / B + (x * y % B + o) / B ∧
    x * y / B + (x * y % B + o) / B ≤ (x * y + o + c) / B ∧ (x * y + o + c) / B < B ∧ 0 ≤ (x * y + o + c) / B ∧ x * y / B + (x * y % B + o) / B < B := by
  have h1 : 0 ≤ x * y := Int.mul_nonneg hx hy
  have h2 : x * y ≤ (B - 1) * (B - 1) := Int.mul_le_mul (by omega) (by omega) hy (by omega)
  have h3 : (B - 1) * (B - 1) = B * B - 2 * B + 1 := by grind
  generalize x * y = p at *
  have e1 := Int.emod_add_mul_ediv p B
  have e2 := Int.emod_add_mul_ediv (p % B + o) B
  have e3 := Int.emod_add_mul_ediv ((p % B + o) % B + c) B
  have g1 := Int.emod_nonneg p (show B ≠ 0 by omega)
  have g2 := Int.emod_nonneg (p % B + o) (show B ≠ 0 by omega)
  have g3 := Int.emod_nonneg ((p % B + o) % B + c) (show B ≠ 0 by omega)
  have l3 := Int.emod_lt_of_pos ((p % B + o) % B + c) hB
  have q1 := ediv_nn (b := B) h1 (Int.le_of_lt hB)
  have q2 := ediv_nn (a := p % B + o) (b := B) (by omega) (Int.le_of_lt hB)
  have q3 := ediv_nn (a := (p % B + o) % B + c) (b := B) (by omega) (Int.le_of_lt hB)
  have e : p + o + c = ((p % B + o) % B + c) % B + B * ((p / B + (p % B + o) / B) + ((p % B + o) % B + c) / B) := by grind
  have d1 := div_of e g3 l3
  have d2 := mod_of e g3 l3
  have d3 : (p + o + c) / B < B := Int.ediv_lt_of_lt_mul hB (by omega)
  refine ⟨d2.symm, d1.symm, by omega, by omega, d3, by omega, by omega⟩
theorem mul_step (x y o c : Int) (hx : 0 ≤ x) (hx1 : x < 18446744073709551616) (hy : 0 ≤ y) (hy1 : y < 18446744073709551616) (ho : 0 ≤ o) (ho1 : o < 18446744073709551616) (hc : 0 ≤ c) (hc1 : c < 18446744073709551616) :
    ((x * y % 18446744073709551616 + o) % 18446744073709551616 + c) % 18446744073709551616 = (x * y + o + c) % 18446744073709551616 ∧ IntKind.u64.wrap (IntKind.u64.wrap (x * y / 18446744073709551616 + (x * y % 18446744073709551616 + o) / 18446744073709551616) + ((x * y % 18446744073709551616 + o) % 18446744073709551616 + c) / 18446744073709551616) = (x * y + o + c) / 18446744073709551616 ∧ 0 ≤ (x * y + o + c) / 18446744073709551616 ∧ (x * y + o + c) / 18446744073709551616 < 18446744073709551616 ∧ 0 ≤ x * y := by
  obtain ⟨m1, m2, m3, m4, m5, m6, m7⟩ := mul_stepB B0 x y o c hx hx1 hy hy1 ho ho1 hc hc1
  refine ⟨m1, ?_, m6, m5, Int.mul_nonneg hx hy⟩
  rw [wrap_id _ m3 m7, m2, wrap_id _ m6 m5]
theorem mul_alg (B p p2 s q c x y o V1 V2 V3 : Int) (h : V1 + p * p2 * c = V2 + p * (x * V3)) (e : s + B * q = x * y + o + c) :
    V1 + p * p2 * s + p * p2 * B * q = V2 + p * p2 * o + p * (x * (V3 + p2 * y)) := by grind
theorem mul_inner (a b : List Int) (hb : dg 18446744073709551616 b) (i : Nat) (x : Int) (hx : 0 ≤ x) (hx1 : x < 18446744073709551616) (old : List Int) (_hold : dg 18446744073709551616 old) (hol : old.length = a.length + b.length) (hi : i < a.length) (hal : a.length ≤ 1073741824) (hbl : b.length ≤ 1073741824) (r : List Int) :
    ∀ (d j : Nat) (out : List Int) (c : Int), j + d = b.length → out.length = old.length → dg 18446744073709551616 out → 0 ≤ c → c < 18446744073709551616 → (∀ t : Nat, i + j ≤ t → rd out (t : Int) = rd old (t : Int)) →
    vl 18446744073709551616 (out.take (i + j)) + 18446744073709551616 ^ (i + j) * c = vl 18446744073709551616 (old.take (i + j)) + 18446744073709551616 ^ i * (x * vl 18446744073709551616 (b.take j)) →
    (∀ o : List Int, o.length = old.length → dg 18446744073709551616 o → vl 18446744073709551616 (o.take (i + b.length + 1)) = vl 18446744073709551616 (old.take (i + b.length)) + 18446744073709551616 ^ i * (x * vl 18446744073709551616 b) → Evn (fun k => number_Mul.l0 k b o a a.length ((i : Int) + 1)) r) →
    Evn (fun k => number_Mul.l1 k b out i x c a a.length i b b.length j) r := by
  intro d
  induction d with
  | zero =>
    intro j out c hj ho hd hc hc1 _ hv H
    obtain rfl : j = b.length := by omega
    rw [List.take_length] at hv
    have := H (out.set (i + b.length) c) (by rw [List.length_set]; exact ho) (dg_set hd hc hc1) (by rw [vl_set_take _ _ _ (by omega), hv])
    refine Evn.succ (fun k => ?_) this
    rw [number_Mul.l1, if_neg (by omega), w64 _ (by omega) (by omega), if_pos (by omega), if_pos (by omega), w64 _ (by omega) (by omega), show (i : Int) + (b.length : Int) = ((i + b.length : Nat) : Int) by omega, Int.toNat_natCast]
  | succ d ih =>
    intro j out c hj ho hd hc hc1 hsame hv H
    have ry := rd_bd hb B0 j
    have ro := rd_bd hd B0 (i + j)
    obtain ⟨m1, m2, m3, m4, m5⟩ := mul_step x (rd b (j : Int)) (rd out ((i + j : Nat) : Int)) c hx hx1 ry.1 ry.2 ro.1 ro.2 hc hc1
    have hs0 : 0 ≤ (x * rd b (j : Int) + rd out ((i + j : Nat) : Int) + c) % 18446744073709551616 := by omega
    have hs1 : (x * rd b (j : Int) + rd out ((i + j : Nat) : Int) + c) % 18446744073709551616 < 18446744073709551616 := by omega
    have hsm := hsame (i + j) (Nat.le_refl _)
    refine Evn.succ (fun k => ?_) (ih (j + 1) (out.set (i + j) ((x * rd b (j : Int) + rd out ((i + j : Nat) : Int) + c) % 18446744073709551616)) ((x * rd b (j : Int) + rd out ((i + j : Nat) : Int) + c) / 18446744073709551616) (by omega) (by rw [List.length_set]; exact ho) (dg_set hd hs0 hs1) m3 m4 (fun t ht => by rw [rd_set _ _ _ _ (by omega), if_neg (by omega)]; exact hsame t (by omega)) (by
      have e := Int.emod_add_mul_ediv (x * rd b (j : Int) + rd out ((i + j : Nat) : Int) + c) 18446744073709551616
      have hv2 := hv
      rw [Int.pow_add] at hv2
      have key := mul_alg 18446744073709551616 (18446744073709551616 ^ i) (18446744073709551616 ^ j) _ _ c x (rd b (j : Int)) (rd out ((i + j : Nat) : Int)) _ _ _ hv2 e
      rw [show i + (j + 1) = i + j + 1 by omega, vl_set_take _ _ _ (by omega), vl_take_succ old, vl_take_succ b, ← hsm, Int.pow_succ, Int.pow_add]
      exact key) H)
    rw [number_Mul.l1, if_pos (by omega), if_pos (by omega), if_pos (by omega), mul64_eval x _ hx hx1 ry.1 ry.2, bsome]
    have hz0 : 0 ≤ x * rd b (j : Int) % 18446744073709551616 := Int.emod_nonneg _ (by omega)
    generalize x * rd b (j : Int) / 18446744073709551616 = z1 at *
    generalize x * rd b (j : Int) % 18446744073709551616 = z2 at *
    simp only []
    rw [w64 ((i : Int) + (j : Int)) (by omega) (by omega), if_pos (by omega), if_pos (by omega), show (i : Int) + (j : Int) = ((i + j : Nat) : Int) by omega]
    rw [add64_eval _ _ 0 hz0 ro.1 (by omega) (by omega), bsome]
    simp only [Int.add_zero]
    rw [add64_eval _ _ 0 (Int.emod_nonneg _ (by omega)) hc (by omega) (by omega), bsome]
    simp only [Int.add_zero]
    rw [m1, m2, Int.toNat_natCast, w64 _ (by omega) (by omega), show (j : Int) + 1 = ((j + 1 : Nat) : Int) by omega]
theorem mul_loop (a b : List Int) (ha : dg 18446744073709551616 a) (hb : dg 18446744073709551616 b) (hal : a.length ≤ 1073741824) (hbl : b.length ≤ 1073741824) : ∀ (d i : Nat) (out : List Int), i + d = a.length → out.length = a.length + b.length → dg 18446744073709551616 out →
    vl 18446744073709551616 (out.take (i + b.length)) = vl 18446744073709551616 (a.take i) * vl 18446744073709551616 b → Evn (fun k => number_Mul.l0 k b out a a.length i) (dgs 18446744073709551616 (vl 18446744073709551616 a * vl 18446744073709551616 b)) := by
  intro d
  induction d with
  | zero =>
    intro i out hi ho hd hv
    obtain rfl : i = a.length := by omega
    rw [← ho, List.take_length, List.take_length] at hv
    refine Evn.succ (h := fun _ => some (cutL out)) (fun k => by rw [number_Mul.l0, if_neg (by omega)]; rfl) (Evn.of fun _ => ?_)
    rw [cut_eq B2 hd hv]
  | succ d ih =>
    intro i out hi ho hd hv
    have hx := rd_bd ha B0 i
    have k1 := mul_inner a b hb i (rd a (i : Int)) hx.1 hx.2 out hd ho (by omega) hal hbl (dgs 18446744073709551616 (vl 18446744073709551616 a * vl 18446744073709551616 b)) b.length 0 out 0 (by omega) rfl hd (by omega) (by omega) (fun _ _ => rfl) (by simp [vl]) (fun o h1 h2 h3 => by
      refine Evn.congr (fun k => by rw [show (i : Int) + 1 = ((i + 1 : Nat) : Int) by omega]) (ih (i + 1) o (by omega) (by omega) h2 ?_)
      rw [show i + 1 + b.length = i + b.length + 1 by omega, h3, hv, vl_take_succ, Int.add_mul, Int.mul_assoc])
    refine Evn.succ (fun k => ?_) k1
    rw [number_Mul.l0, if_pos (by omega), if_pos (by omega), if_pos (by omega)]
    rfl
theorem mul_ev (a b : List Int) (ha : dg 18446744073709551616 a) (hb : dg 18446744073709551616 b) (hal : a.length ≤ 1073741824) (hbl : b.length ≤ 1073741824) : Evn (fun k => number_Mul.f k a b) (dgs 18446744073709551616 (vl 18446744073709551616 a * vl 18446744073709551616 b)) := by
  refine Evn.congr (fun k => ?_) (mul_loop a b ha hb hal hbl a.length 0 (List.replicate (a.length + b.length) 0) (by omega) (by simp) (dg_replicate B0 _) (by rw [List.take_replicate, vl_zeros]; simp [vl]))
  unfold number_Mul.f
  rw [w64 _ (by omega) (by omega), if_pos (by omega), if_pos (by omega), show (a.length : Int) + (b.length : Int) = ((a.length + b.length : Nat) : Int) by omega, Int.toNat_natCast]
  rfl
theorem ws_len (n : Int) (hn : 0 ≤ n) (m : Nat) (h : n < 18446744073709551616 ^ m) : (dgs 18446744073709551616 n).length ≤ m := dgs_len_le B2 n hn m h
theorem add_ws (x y : Int) (hx : 0 ≤ x) (hy : 0 ≤ y) (m : Nat) (hm : m ≤ 1073741824) (h1 : x < 18446744073709551616 ^ m) (h2 : y < 18446744073709551616 ^ m) : Evn (fun k => number_Add.f k (dgs 18446744073709551616 x) (dgs 18446744073709551616 y)) (dgs 18446744073709551616 (x + y)) := by
  have h := add_ev (dgs 18446744073709551616 x) (dgs 18446744073709551616 y) (dgs_dg B2 x hx) (dgs_dg B2 y hy) (by have := ws_len x hx m h1; omega) (by have := ws_len y hy m h2; omega)
  rwa [vl_dgs B2 x hx, vl_dgs B2 y hy] at h
theorem words_loop (l m : List Int) (hl : l.length ≤ 4611686018427387904) (hlm : l.length = m.length) : ∀ (d i : Nat), i + d = l.length → l.take i = m.take i → Evn (fun k => chicorylaw03_Words.l0 k l m i) (decide (l = m)) := by
  intro d
  induction d with
  | zero =>
    intro i hi h
    rw [List.take_of_length_le (by omega), List.take_of_length_le (by omega)] at h
    refine Evn.succ (h := fun _ => some true) (fun k => by rw [chicorylaw03_Words.l0, if_neg (by omega)]) (Evn.of fun _ => ?_)
    rw [decide_eq_true h]
  | succ d ih =>
    intro i hi h
    by_cases he : rd l (i : Int) = rd m (i : Int)
    · refine Evn.succ (fun k => ?_) (ih (i + 1) (by omega) (by rw [take_rd l i (by omega), take_rd m i (by omega), h, he]))
      rw [chicorylaw03_Words.l0, if_pos (by omega), if_pos (by omega), if_pos (by omega), if_pos he, w64 _ (by omega) (by omega)]; rfl
    · refine Evn.succ (h := fun _ => some false) (fun k => by rw [chicorylaw03_Words.l0, if_pos (by omega), if_pos (by omega), if_pos (by omega), if_neg he]) (Evn.of fun _ => ?_)
      rw [decide_eq_false (fun e => he (by rw [e]))]
theorem words_ev (l m : List Int) (hl : l.length ≤ 4611686018427387904) : Evn (fun k => chicorylaw03_Words.f k l m) (decide (l = m)) := by
  by_cases h : l.length = m.length
  · refine Evn.congr (fun k => ?_) (words_loop l m hl h l.length 0 (by omega) rfl)
    unfold chicorylaw03_Words.f
    rw [if_pos (by omega)]; rfl
  · refine Evn.of fun k => ?_
    unfold chicorylaw03_Words.f
    rw [if_neg (by omega), decide_eq_false (fun e => h (by rw [e]))]
/-- How often n has m, and what is left; or ErrZero. -/
def divR (n m : Int) : List Int × List Int × Int := if m = 0 then ([], [], 15) else (dgs 18446744073709551616 (n / m), dgs 18446744073709551616 (n % m), 0)
theorem div_facts {n d : Int} {m : Nat} (hd : 0 < d) (hn : 0 ≤ n) : 0 ≤ n / 2 ^ m ∧ 0 ≤ n / 2 ^ m % d ∧ n / 2 ^ m % d < d ∧ 0 ≤ n / 2 ^ m / d :=
  ⟨ediv_nn hn (Int.le_of_lt (two_pos m)), Int.emod_nonneg _ (by omega), Int.emod_lt_of_pos _ hd, ediv_nn (ediv_nn hn (Int.le_of_lt (two_pos m))) (by omega)⟩
theorem half_step (n : Int) (m : Nat) : n / 2 ^ m = 2 * (n / 2 ^ (m + 1)) + bitv n (m : Int) := by
  rw [bitv_nat, Int.pow_succ, ← Int.ediv_ediv_of_nonneg (Int.le_of_lt (two_pos m))]
  omega
theorem div_up {h h' d b : Int} (e : h' = 2 * h + b) (h0 : 0 ≤ 2 * (h % d) + b) (hlt : 2 * (h % d) + b < d) : h' / d = 2 * (h / d) ∧ h' % d = 2 * (h % d) + b := by
  have h3 := Int.emod_add_mul_ediv h d
  have e2 : h' = (2 * (h % d) + b) + d * (2 * (h / d)) := by grind
  exact ⟨div_of e2 h0 hlt, mod_of e2 h0 hlt⟩
theorem div_up1 {h h' d b : Int} (e : h' = 2 * h + b) (h0 : d ≤ 2 * (h % d) + b) (hlt : 2 * (h % d) + b - d < d) : h' / d = 2 * (h / d) + 1 ∧ h' % d = 2 * (h % d) + b - d := by
  have h3 := Int.emod_add_mul_ediv h d
  have e2 : h' = (2 * (h % d) + b - d) + d * (2 * (h / d) + 1) := by grind
  exact ⟨div_of e2 (by omega) hlt, mod_of e2 (by omega) hlt⟩
theorem dvd_digit (Q : Int) (w s : Nat) (hs : s < 64) : (Q * 2 ^ (64 * w + s + 1)) / 18446744073709551616 ^ w % 18446744073709551616 % 2 ^ (s + 1) = 0 := by
  have e1 : (2 : Int) ^ (64 * w + s + 1) = 18446744073709551616 ^ w * 2 ^ (s + 1) := by
    rw [show 64 * w + s + 1 = 64 * w + (s + 1) by omega, Int.pow_add, Int.pow_mul]; rfl
  have e2 : (18446744073709551616 : Int) = 2 ^ (s + 1) * 2 ^ (63 - s) := by
    rw [← Int.pow_add, show s + 1 + (63 - s) = 64 by omega]; rfl
  rw [e1, ← Int.mul_assoc, Int.mul_comm Q, Int.mul_assoc, Int.mul_ediv_cancel_left _ (by have := pow_pos B0 w; omega)]
  have e3 : Q * 2 ^ (s + 1) % 18446744073709551616 = 2 ^ (s + 1) * (Q % 2 ^ (63 - s)) := by
    rw [e2, Int.mul_comm Q, Int.mul_emod_mul_of_pos _ _ (two_pos (s + 1))]
  rw [e3, Int.mul_emod_right]
theorem mult_lt {x : Int} {s : Nat} (hs : s < 64) (h0 : 0 ≤ x) (h1 : x < 18446744073709551616) (h : x % 2 ^ (s + 1) = 0) : x + 2 ^ s < 18446744073709551616 := by
  have e2 : (18446744073709551616 : Int) = 2 ^ (s + 1) * 2 ^ (63 - s) := by
    rw [← Int.pow_add, show s + 1 + (63 - s) = 64 by omega]; rfl
  have e3 := Int.emod_add_mul_ediv x (2 ^ (s + 1))
  rw [h] at e3
  have hp := two_pos (s + 1)
  have hp0 := two_pos s
  have hlt : x / 2 ^ (s + 1) < 2 ^ (63 - s) := by
    refine Int.ediv_lt_of_lt_mul hp ?_
    rw [Int.mul_comm, ← e2]; exact h1
  have h4 := Int.mul_le_mul_of_nonneg_left (show x / 2 ^ (s + 1) + 1 ≤ 2 ^ (63 - s) by omega) (Int.le_of_lt hp)
  rw [Int.mul_add, ← e2, Int.pow_succ] at h4
  rw [Int.pow_succ] at e3
  omega
theorem div_loop (a b : List Int) (ha : dg 18446744073709551616 a) (hb : dg 18446744073709551616 b) (hal : a.length ≤ 67108864) (hbl : b.length ≤ 67108864) (hd : 0 < vl 18446744073709551616 b) : ∀ (m i : Nat) (q : List Int), (i : Int) + m = nbit (vl 18446744073709551616 a) → q.length = a.length → dg 18446744073709551616 q →
    vl 18446744073709551616 q = vl 18446744073709551616 a / 2 ^ m / vl 18446744073709551616 b * 2 ^ m → Evn (fun k => number_Div.l0 k a b q (dgs 18446744073709551616 (vl 18446744073709551616 a / 2 ^ m % vl 18446744073709551616 b)) (nbit (vl 18446744073709551616 a)) i) (divR (vl 18446744073709551616 a) (vl 18446744073709551616 b)) := by
  intro m
  have hn := vl_nonneg ha B0
  have hbB := vl_lt hb B0
  have hL : nbit (vl 18446744073709551616 a) ≤ 64 * a.length := by
    have := nbit_le (n := vl 18446744073709551616 a) (m := 64 * a.length) (by rw [Int.pow_mul]; exact vl_lt ha B0)
    omega
  induction m with
  | zero =>
    intro i q hi hq hdq hv
    refine Evn.succ (h := fun _ => some (cutL q, cutL (dgs 18446744073709551616 (vl 18446744073709551616 a / 2 ^ 0 % vl 18446744073709551616 b)), 0)) (fun k => by rw [number_Div.l0, if_neg (by omega)]; rfl) (Evn.of fun _ => ?_)
    obtain ⟨_, f2, _, _⟩ := div_facts (n := vl 18446744073709551616 a) (m := 0) hd hn
    rw [cut_of_dgs B2 _ f2, cut_eq B2 hdq hv]
    unfold divR
    rw [if_neg (by omega)]
    simp
  | succ m ih =>
    intro i q hi hq hdq hv
    obtain ⟨f1, f2, f3, f4⟩ := div_facts (n := vl 18446744073709551616 a) (m := m + 1) hd hn
    have hst := half_step (vl 18446744073709551616 a) m
    have hbt := bitv_bd (vl 18446744073709551616 a) (m : Int)
    have hw : ∀ x : Int, x < 2 * vl 18446744073709551616 b → x < 18446744073709551616 ^ (b.length + 1) := fun x hx => by rw [Int.pow_succ]; omega
    have eL : wrap64 (wrap64 (nbit (vl 18446744073709551616 a) - 1) - (i : Int)) = (m : Int) := by rw [w64 (nbit (vl 18446744073709551616 a) - 1) (by omega) (by omega), w64 _ (by omega) (by omega)]; omega
    have hA : Evn (fun k => number_Add.f k (dgs 18446744073709551616 (vl 18446744073709551616 a / 2 ^ (m + 1) % vl 18446744073709551616 b)) (dgs 18446744073709551616 (vl 18446744073709551616 a / 2 ^ (m + 1) % vl 18446744073709551616 b))) (dgs 18446744073709551616 (2 * (vl 18446744073709551616 a / 2 ^ (m + 1) % vl 18446744073709551616 b))) := by
      have := add_ws (vl 18446744073709551616 a / 2 ^ (m + 1) % vl 18446744073709551616 b) (vl 18446744073709551616 a / 2 ^ (m + 1) % vl 18446744073709551616 b) f2 f2 (b.length + 1) (by omega) (hw _ (by omega)) (hw _ (by omega))
      rwa [show vl 18446744073709551616 a / 2 ^ (m + 1) % vl 18446744073709551616 b + vl 18446744073709551616 a / 2 ^ (m + 1) % vl 18446744073709551616 b = 2 * (vl 18446744073709551616 a / 2 ^ (m + 1) % vl 18446744073709551616 b) by omega] at this
    -- the join, at the remainder with its bit
    have hJ : Evn (fun k => number_Div.j1 k a b q (dgs 18446744073709551616 (2 * (vl 18446744073709551616 a / 2 ^ (m + 1) % vl 18446744073709551616 b) + bitv (vl 18446744073709551616 a) (m : Int))) (m : Int) (nbit (vl 18446744073709551616 a)) i) (divR (vl 18446744073709551616 a) (vl 18446744073709551616 b)) := by
      have g0 : 0 ≤ 2 * (vl 18446744073709551616 a / 2 ^ (m + 1) % vl 18446744073709551616 b) + bitv (vl 18446744073709551616 a) (m : Int) := by omega
      have hlen := ws_len _ g0 (b.length + 1) (hw _ (by omega))
      have hC := compare_ev (dgs 18446744073709551616 (2 * (vl 18446744073709551616 a / 2 ^ (m + 1) % vl 18446744073709551616 b) + bitv (vl 18446744073709551616 a) (m : Int))) b (dgs_dg B2 _ g0) hb (by omega) (by omega)
      rw [vl_dgs B2 _ g0] at hC
      refine Evn.succ (fun k => by rw [number_Div.j1]) (Evn.bind hC ?_)
      by_cases hlt : 2 * (vl 18446744073709551616 a / 2 ^ (m + 1) % vl 18446744073709551616 b) + bitv (vl 18446744073709551616 a) (m : Int) < vl 18446744073709551616 b
      · obtain ⟨u1, u2⟩ := div_up hst g0 hlt
        have := ih (i + 1) q (by omega) hq hdq (by rw [hv, u1, Int.pow_succ]; grind)
        rw [u2] at this
        refine Evn.congr (fun k => ?_) this
        rw [if_pos (cmpI_lt.2 hlt), w64 _ (by omega) (by omega)]; rfl
      · obtain ⟨u1, u2⟩ := div_up1 (d := vl 18446744073709551616 b) hst (by omega) (by omega)
        have hS := sub_ev (dgs 18446744073709551616 (2 * (vl 18446744073709551616 a / 2 ^ (m + 1) % vl 18446744073709551616 b) + bitv (vl 18446744073709551616 a) (m : Int))) b (dgs_dg B2 _ g0) hb (by omega) (by omega)
        rw [vl_dgs B2 _ g0] at hS
        unfold subR at hS
        rw [if_neg hlt] at hS
        have em : (m : Int) = 64 * ((m / 64 : Nat) : Int) + ((m % 64 : Nat) : Int) := by omega
        have ew : m / 64 < q.length := by omega
        have hz : rd q ((m / 64 : Nat) : Int) % 2 ^ (m % 64 + 1) = 0 := by
          rw [rd_vl hdq B0, hv]
          have := dvd_digit (vl 18446744073709551616 a / 2 ^ (m + 1) / vl 18446744073709551616 b) (m / 64) (m % 64) (by omega)
          rwa [show 64 * (m / 64) + m % 64 + 1 = m + 1 by omega] at this
        have hrb := rd_bd hdq B0 (m / 64)
        have hml := mult_lt (x := rd q ((m / 64 : Nat) : Int)) (s := m % 64) (by omega) hrb.1 hrb.2 hz
        have hp2 := two_pos (m % 64)
        have e1 := tdiv_nat m 64
        have e2 := tmod_nat m 64
        rw [show ((64 : Nat) : Int) = 64 from rfl] at e1 e2
        have hsh : shl .u64 1 ((m % 64 : Nat) : Int) = 2 ^ (m % 64) := by rw [shl_eq _ _ (by omega), Int.one_mul, Int.emod_eq_of_lt (by omega) (by omega)]
        have hor := or_add (rd q ((m / 64 : Nat) : Int)) (2 ^ (m % 64)) (m % 64 + 1) hrb.1 hrb.2 (by omega) (by rw [Int.pow_succ]; omega) (by omega) hz
        have := ih (i + 1) (q.set (m / 64) (rd q ((m / 64 : Nat) : Int) + 2 ^ (m % 64))) (by omega) (by rw [List.length_set]; exact hq) (dg_set hdq (by omega) hml) (by
          rw [vl_set _ _ _ ew, hv, u1]
          have hb2 : (18446744073709551616 : Int) ^ (m / 64) * 2 ^ (m % 64) = 2 ^ m := by
            rw [show (18446744073709551616 : Int) = 2 ^ 64 from rfl, ← Int.pow_mul, ← Int.pow_add]; congr 1; omega
          rw [Int.pow_succ]; grind)
        rw [u2] at this
        refine Evn.congr (fun k => by rw [if_neg (fun e => hlt (cmpI_lt.1 e))]) (Evn.bind hS (Evn.congr (fun k => ?_) this))
        simp only []
        rw [e1, e2, w64 _ (by omega) (by omega), if_pos (by omega), if_pos (by omega), if_pos (by omega), Int.toNat_natCast, hsh, hor, w64 _ (by omega) (by omega)]
        rfl
    refine Evn.succ (h := fun k => (number_Len.f k a).bind fun t177 => ((number_Add.f k (dgs 18446744073709551616 (vl 18446744073709551616 a / 2 ^ (m + 1) % vl 18446744073709551616 b)) (dgs 18446744073709551616 (vl 18446744073709551616 a / 2 ^ (m + 1) % vl 18446744073709551616 b))).bind fun t178 => ((number_Bit.f a (wrap64 ((wrap64 (t177 - 1)) - (i : Int)))).bind fun t181 => (if t181 = 1 then ((number_Add.f k t178 (([1] : List Int))).bind fun t185 => (number_Div.j1 k a b q t185 (wrap64 ((wrap64 (t177 - 1)) - (i : Int))) (nbit (vl 18446744073709551616 a)) (i : Int))) else (number_Div.j1 k a b q t178 (wrap64 ((wrap64 (t177 - 1)) - (i : Int))) (nbit (vl 18446744073709551616 a)) (i : Int)))))) (fun k => by rw [number_Div.l0, if_pos (by omega)]) ?_
    refine Evn.bind (len_ev a ha (by omega)) (Evn.bind hA ?_)
    rw [eL]
    by_cases h1 : bitv (vl 18446744073709551616 a) (m : Int) = 1
    · have e1 : ([1] : List Int) = dgs 18446744073709551616 1 := by rw [dgs_pos B2 (by omega)]; rw [show (1 : Int) / 18446744073709551616 = 0 from rfl, dgs_zero]; rfl
      have hB := add_ws (2 * (vl 18446744073709551616 a / 2 ^ (m + 1) % vl 18446744073709551616 b)) 1 (by omega) (by omega) (b.length + 1) (by omega) (hw _ (by omega)) (hw _ (by omega))
      rw [← e1] at hB
      rw [h1] at hJ
      refine Evn.congr (fun k => ?_) (Evn.bind (h := fun k t185 => number_Div.j1 k a b q t185 (m : Int) (nbit (vl 18446744073709551616 a)) (i : Int)) hB hJ)
      rw [bit_ev a ha (m : Int) (by omega)]
      simp only [Option.bind_some]
      rw [if_pos h1]
    · rw [show bitv (vl 18446744073709551616 a) (m : Int) = 0 by omega, Int.add_zero] at hJ
      refine Evn.congr (fun k => ?_) hJ
      rw [bit_ev a ha (m : Int) (by omega)]
      simp only [Option.bind_some]
      rw [if_neg h1]
theorem div_ev (a b : List Int) (ha : dg 18446744073709551616 a) (hb : dg 18446744073709551616 b) (hal : a.length ≤ 67108864) (hbl : b.length ≤ 67108864) : Evn (fun k => number_Div.f k a b) (divR (vl 18446744073709551616 a) (vl 18446744073709551616 b)) := by
  have hn := vl_nonneg ha B0
  have hbn := vl_nonneg hb B0
  have hcut : ∀ k, number_Nat_cut.f k b = some (dgs 18446744073709551616 (vl 18446744073709551616 b)) := fun k => by unfold number_Nat_cut.f; rw [cut_dgs B2 b hb]
  by_cases hz : vl 18446744073709551616 b = 0
  · refine Evn.of fun k => ?_
    unfold number_Div.f
    rw [hcut, hz]
    simp only [Option.bind_some]
    rw [dgs_zero, if_pos (by rfl)]
    unfold divR; rw [if_pos rfl]
  · have hne : ¬ (((dgs 18446744073709551616 (vl 18446744073709551616 b)).length : Int) = 0) := fun e => hz ((dgs_nil_iff B2 _ hbn).1 (List.eq_nil_of_length_eq_zero (by omega)))
    have hnb := nbit_nonneg (vl 18446744073709551616 a)
    have hlt := nbit_lt hn
    have e0 : vl 18446744073709551616 a / 2 ^ (nbit (vl 18446744073709551616 a)).toNat = 0 := Int.ediv_eq_zero_of_lt hn hlt
    have := div_loop a b ha hb hal hbl (by omega) (nbit (vl 18446744073709551616 a)).toNat 0 (List.replicate a.length 0) (by omega) (by simp) (dg_replicate B0 _) (by rw [vl_zeros, e0]; simp)
    rw [e0] at this
    simp only [Int.zero_emod, dgs_zero] at this
    refine Evn.congr (fun k => ?_) (Evn.bind (h := fun k t170 => number_Div.l0 k a b (List.replicate a.length 0) [] t170 0) (len_ev a ha (by omega)) this)
    unfold number_Div.f
    rw [hcut]
    simp only [Option.bind_some]
    rw [if_neg hne, if_pos (by omega), if_pos (by omega), Int.toNat_natCast]
theorem awake_ev : Evn (fun k => chicorylaw03_awake.f k) true := by
  have d1 : dg 18446744073709551616 [18446744073709551615] := dg_one (by omega) (by omega)
  have d7 : dg 18446744073709551616 [7] := dg_one (by omega) (by omega)
  have d2 : dg 18446744073709551616 [2] := dg_one (by omega) (by omega)
  refine Evn.congr (fun k => by unfold chicorylaw03_awake.f; rfl) (Evn.bind (mul_ev _ _ d1 d1 (by decide) (by decide)) (Evn.bind (div_ev _ _ d7 d2 (by decide) (by decide)) ?_))
  have e1 : dgs 18446744073709551616 (vl 18446744073709551616 [18446744073709551615] * vl 18446744073709551616 [18446744073709551615]) = [1, 18446744073709551614] := dgs_eq B2 (by intro x hx; simp at hx; omega) (by decide) (by simp [vl])
  have e2 : dgs 18446744073709551616 (vl 18446744073709551616 [7] / vl 18446744073709551616 [2]) = [3] := dgs_eq B2 (dg_one (by omega) (by omega)) (by decide) (by simp [vl])
  have e3 : dgs 18446744073709551616 (vl 18446744073709551616 [7] % vl 18446744073709551616 [2]) = [1] := dgs_eq B2 (dg_one (by omega) (by omega)) (by decide) (by simp [vl])
  have e4 : divR (vl 18446744073709551616 [7]) (vl 18446744073709551616 [2]) = ([3], [1], 0) := by unfold divR; rw [if_neg (by simp [vl]), e2, e3]
  rw [e1, e4]
  refine Evn.bind (words_ev _ _ (by decide)) (Evn.congr (fun k => by rw [if_pos (by decide)]) (Evn.bind (words_ev _ _ (by decide)) (Evn.congr (fun k => by rw [if_pos (by decide)]) (Evn.bind (words_ev _ _ (by decide)) (Evn.of fun k => ?_)))))
  rw [if_pos (by decide)]; rfl
theorem few_ev (l : List Int) : chicorylaw03_few.f l = some (decide (l.length ≤ 20)) := by
  unfold chicorylaw03_few.f
  congr 1
  rw [decide_eq_decide]; omega
theorem wd_of {l : List Int} (h : ∀ x ∈ l, (Lit.int .u64 x).wf = true) : dg 18446744073709551616 l := fun x hx => by
  have := h x hx
  unfold Lit.wf at this
  rw [Bool.and_eq_true, decide_eq_true_eq, decide_eq_true_eq] at this
  have e1 : IntKind.u64.min = 0 := by decide
  have e2 : IntKind.u64.max = 18446744073709551615 := by decide
  rw [e1, e2] at this
  omega
end Go.Proofs.Ytdaehflffecllaa.A
namespace Go.Proofs.Ytdaehflffecllaa.A
open Go.RowKit Go.Proofs.YtdaehflffecllaaW.PrintWords Go.Proofs.Ytdaehflffecllaa.N Go.Proofs.Ytdaehflffecllaa.T
theorem awake_some : Evn (fun k => (chicorylaw03_awake.f k).bind fun t => some t) true := Evn.bind awake_ev (Evn.of fun _ => rfl)
end Go.Proofs.Ytdaehflffecllaa.A
namespace Go.Proofs.Ytdaehflffecllaa.A
open Go.RowKit Go.Proofs.YtdaehflffecllaaW.PrintWords Go.Proofs.Ytdaehflffecllaa.N Go.Proofs.Ytdaehflffecllaa.T
/-- A number whose bits go up, or down. -/
def shv (n b : Int) : Int := if 0 ≤ b then n * 2 ^ b.toNat else n / 2 ^ (-b).toNat
/-- A word; 0: there is none. -/
def atz (l : List Int) (z : Int) : Int := if z < 0 then 0 else rd l z
theorem at_z (l : List Int) (z : Int) : number_Nat_at.f l z = some (atz l z) := by
  unfold atz
  by_cases h : z < 0
  · rw [at_neg l z h, if_pos h]
  · obtain ⟨i, rfl⟩ := Int.eq_ofNat_of_zero_le (show 0 ≤ z by omega)
    rw [at_nn, if_neg h]
theorem mod_succ (R B p : Int) (hp : 0 < p) : R % (p * B) = R % p + p * (R / p % B) := by
  have e1 := Int.emod_add_mul_ediv R (p * B)
  have e2 := Int.emod_add_mul_ediv R p
  have e3 := Int.emod_add_mul_ediv (R / p) B
  rw [← Int.ediv_ediv_of_nonneg (Int.le_of_lt hp)] at e1
  grind
theorem bw2 : (18446744073709551616 : Int) = 2 ^ 64 := rfl
/-- A digit of a number whose bits went up less than a word. -/
theorem digit_up (l : List Int) (h : dg 18446744073709551616 l) (up : Nat) (hu : up < 64) (j : Nat) :
    vl 18446744073709551616 l * 2 ^ up / 18446744073709551616 ^ j % 18446744073709551616 = rd l (j : Int) * 2 ^ up % 18446744073709551616 + (if j = 0 then 0 else rd l ((j - 1 : Nat) : Int) / 2 ^ (64 - up)) := by
  have hp := pow_pos B0 j
  have hu2 := two_pos up
  have hs := vl_split (B := 18446744073709551616) l j
  have ht := vl_take_bd h B0 j
  have hd := vl_drop (B := 18446744073709551616) l j
  have hr := rd_bd h B0 j
  -- what goes beyond the lower digits
  have key : ∃ e : Int, 0 ≤ e ∧ e < 2 ^ up ∧ vl 18446744073709551616 (l.take j) * 2 ^ up / 18446744073709551616 ^ j = e ∧ e = (if j = 0 then 0 else rd l ((j - 1 : Nat) : Int) / 2 ^ (64 - up)) := by
    by_cases hj : j = 0
    · subst hj
      refine ⟨0, by omega, hu2, by simp [vl], by rw [if_pos rfl]⟩
    · obtain ⟨i, rfl⟩ : ∃ i, j = i + 1 := ⟨j - 1, by omega⟩
      have hri := rd_bd h B0 i
      have hv2 := two_pos (64 - up)
      have hsp : (18446744073709551616 : Int) = 2 ^ up * 2 ^ (64 - up) := by rw [bw2, ← Int.pow_add]; congr 1; omega
      have hpi := pow_pos B0 i
      have hti := vl_take_bd h B0 i
      refine ⟨rd l (i : Int) / 2 ^ (64 - up), ediv_nn hri.1 (Int.le_of_lt hv2), ?_, ?_, by rw [if_neg (by omega)]; rfl⟩
      · exact Int.ediv_lt_of_lt_mul hv2 (by rw [← hsp]; exact hri.2)
      · have e1 : (18446744073709551616 : Int) ^ (i + 1) = 18446744073709551616 ^ i * 2 ^ (64 - up) * 2 ^ up := by rw [Int.pow_succ, Int.mul_assoc, Int.mul_comm (2 ^ (64 - up)), ← hsp]
        rw [e1, Int.mul_ediv_mul_of_pos_left _ _ hu2, ← Int.ediv_ediv_of_nonneg (Int.le_of_lt hpi), vl_take_succ]
        rw [div_of (r := vl 18446744073709551616 (l.take i)) rfl hti.1 hti.2]
  obtain ⟨e, he0, he1, he2, he3⟩ := key
  rw [← he3]
  have e4 : vl 18446744073709551616 l * 2 ^ up / 18446744073709551616 ^ j = e + vl 18446744073709551616 (l.drop j) * 2 ^ up := by
    rw [hs, Int.add_mul, Int.mul_assoc, Int.add_mul_ediv_left _ _ (by omega), he2]
  rw [e4, hd]
  -- the lower part is a multiple of 2^up
  have hsp : (18446744073709551616 : Int) = 2 ^ up * 2 ^ (64 - up) := by rw [bw2, ← Int.pow_add]; congr 1; omega
  have m1 : rd l (j : Int) * 2 ^ up % 18446744073709551616 = 2 ^ up * (rd l (j : Int) % 2 ^ (64 - up)) := by
    rw [Int.mul_comm (rd l (j : Int))]; conv => lhs; rw [hsp]
    rw [Int.mul_emod_mul_of_pos _ _ hu2]
  have m2 := Int.emod_add_mul_ediv (rd l (j : Int) * 2 ^ up) 18446744073709551616
  have m3 := Int.emod_lt_of_pos (rd l (j : Int)) (two_pos (64 - up))
  have m4 := Int.emod_nonneg (rd l (j : Int)) (show (2 : Int) ^ (64 - up) ≠ 0 by have := two_pos (64 - up); omega)
  have m5 : 2 ^ up * (rd l (j : Int) % 2 ^ (64 - up) + 1) ≤ 2 ^ up * 2 ^ (64 - up) := Int.mul_le_mul_of_nonneg_left (by omega) (Int.le_of_lt hu2)
  rw [← hsp, Int.mul_add] at m5
  have m6 := Int.mul_nonneg (Int.le_of_lt hu2) m4
  rw [← m1] at m5 m6
  refine mod_of (q := rd l (j : Int) * 2 ^ up / 18446744073709551616 + vl 18446744073709551616 (l.drop (j + 1)) * 2 ^ up) ?_ (by omega) (by omega)
  grind
/-- The digit as the code makes it. -/
theorem digit_or (l : List Int) (h : dg 18446744073709551616 l) (up : Nat) (hu : up < 64) (z : Int) :
    Go.bits .or .u64 (shl .u64 (atz l z) (up : Int)) (shr .u64 (atz l (z - 1)) ((64 - up : Nat) : Int)) = (if z < 0 then 0 else vl 18446744073709551616 l * 2 ^ up / 18446744073709551616 ^ z.toNat % 18446744073709551616) := by
  rw [shl_eq _ _ (by omega), shr_eq _ _ (by omega)]
  have hu2 := two_pos up
  have hv2 := two_pos (64 - up)
  by_cases hz : z < 0
  · rw [if_pos hz]
    unfold atz
    rw [if_pos hz, if_pos (by omega)]
    simp
    decide
  · rw [if_neg hz]
    obtain ⟨j, rfl⟩ := Int.eq_ofNat_of_zero_le (show 0 ≤ z by omega)
    rw [Int.toNat_natCast, digit_up l h up hu j]
    have hr := rd_bd h B0 j
    have hsp : (18446744073709551616 : Int) = 2 ^ up * 2 ^ (64 - up) := by rw [bw2, ← Int.pow_add]; congr 1; omega
    have e1 : atz l (j : Int) = rd l (j : Int) := by unfold atz; rw [if_neg hz]
    have e2 : atz l ((j : Int) - 1) / 2 ^ (64 - up) = (if j = 0 then 0 else rd l ((j - 1 : Nat) : Int) / 2 ^ (64 - up)) := by
      unfold atz
      by_cases h0 : j = 0
      · subst h0; rw [if_pos (by omega), if_pos rfl]; simp
      · rw [if_neg (by omega), if_neg h0, show (j : Int) - 1 = ((j - 1 : Nat) : Int) by omega]
    have e3 : 0 ≤ (if j = 0 then 0 else rd l ((j - 1 : Nat) : Int) / 2 ^ (64 - up)) ∧ (if j = 0 then 0 else rd l ((j - 1 : Nat) : Int) / 2 ^ (64 - up)) < 2 ^ up := by
      by_cases h0 : j = 0
      · rw [if_pos h0]; omega
      · have hri := rd_bd h B0 (j - 1)
        rw [if_neg h0]
        exact ⟨ediv_nn hri.1 (Int.le_of_lt hv2), Int.ediv_lt_of_lt_mul hv2 (by rw [← hsp]; exact hri.2)⟩
    have hub : (2 : Int) ^ up ≤ 18446744073709551616 := by rw [bw2]; exact pow_le (by omega) (by omega)
    rw [e1, e2]
    refine or_add _ _ up (Int.emod_nonneg _ (by omega)) (Int.emod_lt_of_pos _ B0) e3.1 e3.2 (by omega) ?_
    have m1 : rd l (j : Int) * 2 ^ up % 18446744073709551616 = 2 ^ up * (rd l (j : Int) % 2 ^ (64 - up)) := by
      rw [Int.mul_comm (rd l (j : Int))]; conv => lhs; rw [hsp]
      rw [Int.mul_emod_mul_of_pos _ _ hu2]
    rw [m1, Int.mul_emod_right]
/-- A digit of the whole, by the place less the words. -/
theorem shv_digit (n w : Int) (up : Nat) (hu : up < 64) (i : Nat) :
    shv n (64 * w + up) / 18446744073709551616 ^ i % 18446744073709551616 = (if (i : Int) - w < 0 then 0 else n * 2 ^ up / 18446744073709551616 ^ ((i : Int) - w).toNat % 18446744073709551616) := by
  unfold shv
  have hi := pow_pos B0 i
  by_cases hw : 0 ≤ w
  · obtain ⟨t, rfl⟩ := Int.eq_ofNat_of_zero_le hw
    rw [if_pos (by omega), show (64 * (t : Int) + (up : Int)).toNat = up + 64 * t by omega, Int.pow_add, ← Int.mul_assoc, Int.pow_mul, ← bw2]
    by_cases hlt : (i : Int) - (t : Int) < 0
    · rw [if_pos hlt]
      obtain ⟨d, rfl⟩ : ∃ d, t = i + (d + 1) := ⟨t - i - 1, by omega⟩
      rw [Int.pow_add, ← Int.mul_assoc, Int.mul_right_comm _ _ (18446744073709551616 ^ (d + 1)), Int.mul_ediv_cancel _ (by omega), Int.pow_succ, ← Int.mul_assoc, Int.mul_emod_left]
    · rw [if_neg hlt]
      obtain ⟨d, rfl⟩ : ∃ d, i = d + t := ⟨i - t, by omega⟩
      rw [show (((d + t : Nat) : Int) - (t : Int)).toNat = d by omega, Int.pow_add, Int.mul_ediv_mul_of_pos_left _ _ (pow_pos B0 t)]
  · obtain ⟨t, ht⟩ : ∃ t : Nat, w = -((t : Int) + 1) := ⟨(-w - 1).toNat, by omega⟩
    have hneg : ¬ 0 ≤ 64 * w + (up : Int) := by omega
    rw [if_neg hneg, if_neg (by omega), show ((i : Int) - w).toNat = i + (t + 1) by omega]
    have e0 : (18446744073709551616 : Int) ^ (t + 1) = 2 ^ (-(64 * w + (up : Int))).toNat * 2 ^ up := by
      rw [bw2, ← Int.pow_mul, ← Int.pow_add]; congr 1; omega
    have e1 : (18446744073709551616 : Int) ^ (i + (t + 1)) = 2 ^ (-(64 * w + (up : Int))).toNat * 2 ^ up * 18446744073709551616 ^ i := by
      rw [Int.pow_add, Int.mul_comm, e0]
    rw [e1, ← Int.ediv_ediv_of_nonneg (Int.le_of_lt (Int.mul_pos (two_pos _) (two_pos up))), Int.mul_ediv_mul_of_pos_left _ _ (two_pos up)]
theorem shv_nonneg {n : Int} (h : 0 ≤ n) (b : Int) : 0 ≤ shv n b := by
  unfold shv; split
  · exact Int.mul_nonneg h (Int.le_of_lt (two_pos _))
  · exact ediv_nn h (Int.le_of_lt (two_pos _))
theorem shv_lt {n w : Int} (la up : Nat) (hu : up < 64) (_hn : 0 ≤ n) (h : n < 18446744073709551616 ^ la) (m : Nat) (hm : (la : Int) + w + 1 ≤ m) : shv n (64 * w + up) < 18446744073709551616 ^ m := by
  have hu2 := two_pos up
  have hub : (2 : Int) ^ up ≤ 18446744073709551616 := by rw [bw2]; exact pow_le (by omega) (by omega)
  have hV : n * 2 ^ up < 18446744073709551616 ^ (la + 1) := by
    have a1 : n * 2 ^ up < 18446744073709551616 ^ la * 2 ^ up := Int.mul_lt_mul_of_pos_right h hu2
    have a2 : (18446744073709551616 : Int) ^ la * 2 ^ up ≤ 18446744073709551616 ^ la * 18446744073709551616 := Int.mul_le_mul_of_nonneg_left hub (Int.le_of_lt (pow_pos B0 la))
    rw [Int.pow_succ]; omega
  unfold shv
  by_cases hw : 0 ≤ w
  · obtain ⟨t, rfl⟩ := Int.eq_ofNat_of_zero_le hw
    rw [if_pos (by omega), show (64 * (t : Int) + (up : Int)).toNat = up + 64 * t by omega, Int.pow_add, ← Int.mul_assoc, Int.pow_mul, ← bw2]
    have a1 := Int.mul_lt_mul_of_pos_right hV (pow_pos B0 t)
    rw [← Int.pow_add] at a1
    have := pow_le B0 (show la + 1 + t ≤ m by omega)
    omega
  · obtain ⟨t, ht⟩ : ∃ t : Nat, w = -((t : Int) + 1) := ⟨(-w - 1).toNat, by omega⟩
    have hneg : ¬ 0 ≤ 64 * w + (up : Int) := by omega
    rw [if_neg hneg]
    have e1 : (18446744073709551616 : Int) ^ (t + 1) = 2 ^ (-(64 * w + (up : Int))).toNat * 2 ^ up := by
      rw [bw2, ← Int.pow_mul, ← Int.pow_add]; congr 1; omega
    have e2 : n / 2 ^ (-(64 * w + (up : Int))).toNat = n * 2 ^ up / 18446744073709551616 ^ (t + 1) := by rw [e1, Int.mul_ediv_mul_of_pos_left _ _ hu2]
    rw [e2]
    refine Int.ediv_lt_of_lt_mul (pow_pos B0 _) ?_
    rw [← Int.pow_add]
    have := pow_le B0 (show la + 1 ≤ m + (t + 1) by omega)
    omega
theorem shift_loop (l : List Int) (h : dg 18446744073709551616 l) (hl : l.length ≤ 1073741824) (w : Int) (hw0 : -4294967296 ≤ w) (hw1 : w ≤ 4294967296) (up : Nat) (hu : up < 64) (n : Nat) (hn : n ≤ 17179869184) (hnl : (l.length : Int) + w + 1 ≤ n) : ∀ (d i : Nat) (out : List Int), i + d = n → out.length = n → dg 18446744073709551616 (out.take i) →
    vl 18446744073709551616 (out.take i) = shv (vl 18446744073709551616 l) (64 * w + up) % 18446744073709551616 ^ i → Evn (fun k => number_Shift.l0 k l w up out n i) (dgs 18446744073709551616 (shv (vl 18446744073709551616 l) (64 * w + up)), 0) := by
  have hv := vl_nonneg h B0
  intro d
  induction d with
  | zero =>
    intro i out hi ho hd hvv
    obtain rfl : i = n := by omega
    have ht : out.take i = out := by rw [← ho]; exact List.take_length
    rw [ht] at hd hvv
    rw [Int.emod_eq_of_lt (shv_nonneg hv _) (shv_lt l.length up hu hv (vl_lt h B0) i hnl)] at hvv
    refine Evn.succ (h := fun _ => some (cutL out, 0)) (fun k => by rw [number_Shift.l0, if_neg (by omega)]; rfl) (Evn.of fun _ => ?_)
    rw [cut_eq B2 hd hvv]
  | succ d ih =>
    intro i out hi ho hd hvv
    have hdig := digit_or l h up hu ((i : Int) - w)
    have hsd := shv_digit (vl 18446744073709551616 l) w up hu i
    rw [← hsd] at hdig
    have hm0 := Int.emod_nonneg (shv (vl 18446744073709551616 l) (64 * w + up) / 18446744073709551616 ^ i) (show (18446744073709551616 : Int) ≠ 0 by omega)
    have hm1 := Int.emod_lt_of_pos (shv (vl 18446744073709551616 l) (64 * w + up) / 18446744073709551616 ^ i) B0
    refine Evn.succ (fun k => ?_) (ih (i + 1) (out.set i (shv (vl 18446744073709551616 l) (64 * w + up) / 18446744073709551616 ^ i % 18446744073709551616)) (by omega) (by rw [List.length_set]; exact ho) (dg_set_take hd (by omega) hm0 hm1) (by
      rw [vl_set_take _ _ _ (by omega), hvv, Int.pow_succ, mod_succ _ _ _ (pow_pos B0 i)]))
    rw [number_Shift.l0, if_pos (by omega), w64 ((i : Int) - w) (by omega) (by omega), at_z, bsome, if_pos (by omega), w64 ((i : Int) - w - 1) (by omega) (by omega), at_z, bsome, w64 (64 - (up : Int)) (by omega) (by omega), if_pos (by omega), if_pos (by omega), if_pos (by omega), show (64 : Int) - (up : Int) = ((64 - up : Nat) : Int) by omega, hdig, Int.toNat_natCast, w64 _ (by omega) (by omega)]
    rfl
/-- What Shift answers. -/
def shiftR (n b : Int) : List Int × Int := if b < -65536 ∨ 65536 < b then ([], 10) else (dgs 18446744073709551616 (shv n b), 0)
theorem shift_j1 (l : List Int) (h : dg 18446744073709551616 l) (hl : l.length ≤ 1073741824) (w : Int) (hw0 : -4294967296 ≤ w) (hw1 : w ≤ 4294967296) (up : Nat) (hu : up < 64) : Evn (fun k => number_Shift.j1 k l w (up : Int)) (dgs 18446744073709551616 (shv (vl 18446744073709551616 l) (64 * w + up)), 0) := by
  have e1 : mx 0 (wrap64 (wrap64 ((l.length : Int) + w) + 1)) = (((l.length : Int) + w + 1).toNat : Int) := by
    rw [w64 ((l.length : Int) + w) (by omega) (by omega), w64 _ (by omega) (by omega)]; unfold mx; split <;> omega
  refine Evn.succ (fun k => ?_) (shift_loop l h hl w hw0 hw1 up hu ((l.length : Int) + w + 1).toNat (by omega) (by omega) ((l.length : Int) + w + 1).toNat 0 (List.replicate ((l.length : Int) + w + 1).toNat 0) (by omega) (by simp) (by simp; exact dg_nil) (by simp [vl]))
  rw [number_Shift.j1, e1, if_pos (by omega), if_pos (by omega), bsome, Int.toNat_natCast, List.length_replicate]
  rfl
theorem shift_ev (l : List Int) (h : dg 18446744073709551616 l) (hl : l.length ≤ 1073741824) (b : Int) : Evn (fun k => number_Shift.f k l b) (shiftR (vl 18446744073709551616 l) b) := by
  have hout : Evn (fun k => number_Shift.j0 k l b true) (([] : List Int), (10 : Int)) := Evn.succ (h := fun _ => some ([], 10)) (fun k => by rw [number_Shift.j0, if_pos rfl]) (Evn.of fun _ => rfl)
  unfold shiftR
  by_cases hlo : b < -65536
  · rw [if_pos (.inl hlo)]
    exact Evn.congr (fun k => by unfold number_Shift.f; rw [if_pos hlo]) hout
  · by_cases hhi : b > 65536
    · rw [if_pos (.inr hhi)]
      exact Evn.congr (fun k => by unfold number_Shift.f; rw [if_neg hlo, decide_eq_true hhi]) hout
    · rw [if_neg (by omega)]
      have hj := shift_j1 l h hl (b / 64) (by omega) (by omega) (b % 64).toNat (by omega)
      rw [show 64 * (b / 64) + ((b % 64).toNat : Int) = b by omega] at hj
      refine Evn.congr (fun k => by unfold number_Shift.f; rw [if_neg hlo, decide_eq_false hhi]) (Evn.succ (fun k => ?_) hj)
      rw [number_Shift.j0, if_neg (by decide)]
      by_cases hb : 0 ≤ b
      · obtain ⟨c, rfl⟩ := Int.eq_ofNat_of_zero_le hb
        have t1 := tdiv_nat c 64
        have t2 := tmod_nat c 64
        rw [show ((64 : Nat) : Int) = 64 from rfl] at t1 t2
        rw [t1, t2, if_neg (by omega), w64 _ (by omega) (by omega)]
        congr 1 <;> omega
      · obtain ⟨c, hc⟩ : ∃ c : Nat, b = -(c : Int) := ⟨(-b).toNat, by omega⟩
        have t1 : Int.tdiv b 64 = -((c / 64 : Nat) : Int) := by rw [hc, Int.neg_tdiv]; have := tdiv_nat c 64; rw [show ((64 : Nat) : Int) = 64 from rfl] at this; rw [this]
        have t2 : Int.tmod b 64 = -((c % 64 : Nat) : Int) := by rw [hc, Int.neg_tmod]; have := tmod_nat c 64; rw [show ((64 : Nat) : Int) = 64 from rfl] at this; rw [this]
        by_cases hz : c % 64 = 0
        · rw [t1, t2, if_neg (by omega), w64 _ (by omega) (by omega)]
          congr 1 <;> omega
        · rw [t1, t2, if_pos (by omega), w64 (-((c / 64 : Nat) : Int)) (by omega) (by omega), w64 _ (by omega) (by omega), w64 _ (by omega) (by omega)]
          congr 1 <;> omega
end Go.Proofs.Ytdaehflffecllaa.A
namespace Go.Proofs.Ytdaehflffecllaa.Pure
open Go.RowKit Go.Proofs.Ytdaehflffecllaa.N Go.Proofs.YtdaehflffecllaaW.PrintWords Go.Proofs.Ytdaehflffecllaa.T Go.Proofs.Ytdaehflffecllaa.A
/-- The loops: they end, and leave all as it is. -/
theorem own_inner (x0 x1 x7 x8 : List Int) (y : List (List Int)) (n : Nat) (hn : n < y.length) (hl : (rdL y (n : Int)).length ≤ 1000000) (r : Bool)
    (h : Evn (fun k => chicorylaw03_NumberOwn.l0 k x0 x1 x7 x8 y (wrap64 ((n : Int) + 1))) r) : ∀ (d i : Nat), i + d = (rdL y (n : Int)).length → Evn (fun k => chicorylaw03_NumberOwn.l1 k x0 x1 x7 x8 y (n : Int) (i : Int)) r := by
  intro d
  induction d with
  | zero =>
    intro i hi
    exact Evn.succ (fun k => by rw [chicorylaw03_NumberOwn.l1, if_pos (by omega), if_pos (by omega), if_neg (by omega)]) h
  | succ d ih =>
    intro i hi
    refine Evn.succ (fun k => by rw [chicorylaw03_NumberOwn.l1, if_pos (by omega), if_pos (by omega), if_pos (by omega), if_pos (by omega)]) ?_
    refine Evn.congr (fun k => ?_) (ih (i + 1) (by omega))
    rw [w64 ((i : Int) + 1) (by omega) (by omega)]; rfl
theorem own_outer (x0 x1 x7 x8 : List Int) (y : List (List Int)) (hy : y.length ≤ 1000000) (hl : ∀ n : Nat, n < y.length → (rdL y (n : Int)).length ≤ 1000000) (r : Bool)
    (h : Evn (fun k => (chicorylaw03_Words.f k x0 x7).bind fun t282 => (if t282 = true then ((chicorylaw03_Words.f k x1 x8).bind fun t283 => (if t283 = true then ((chicorylaw03_awake.f k).bind fun t284 => (some t284)) else (some false))) else (some false))) r) : ∀ (d n : Nat), n + d = y.length → Evn (fun k => chicorylaw03_NumberOwn.l0 k x0 x1 x7 x8 y (n : Int)) r := by
  intro d
  induction d with
  | zero =>
    intro n hn
    exact Evn.succ (fun k => by rw [chicorylaw03_NumberOwn.l0, if_neg (by omega)]) h
  | succ d ih =>
    intro n hn
    refine Evn.succ (fun k => by rw [chicorylaw03_NumberOwn.l0, if_pos (by omega)]) ?_
    refine own_inner x0 x1 x7 x8 y n (by omega) (hl n (by omega)) r ?_ (rdL y (n : Int)).length 0 (by omega)
    refine Evn.congr (fun k => ?_) (ih (n + 1) (by omega))
    rw [w64 ((n : Int) + 1) (by omega) (by omega)]; rfl
theorem NumberOwn : chicorylaw03_NumberOwn.Pure := by
  intro l0 l1 a2 _ _ hw0 _ _ hw1 _
  have d0 := wd_of hw0
  have d1 := wd_of hw1
  refine Evn.get (?_ : Evn (fun k => chicorylaw03_NumberOwn.f k l0 l1 a2) true)
  have hA : Evn (fun k => chicorylaw03_NumberOwn.j0 k l0 l1 a2 true) true := Evn.succ (fun k => by rw [chicorylaw03_NumberOwn.j0, if_pos rfl]) awake_some
  by_cases h0 : l0.length ≤ 20
  · by_cases h1 : l1.length ≤ 20
    · by_cases h2 : -200 ≤ a2 ∧ a2 ≤ 200
      · have n0 := vl_nonneg d0 B0
        have n1 := vl_nonneg d1 B0
        have m0 := vl_lt d0 B0
        have m1 := vl_lt d1 B0
        have p0 := pow_le B0 (show l0.length ≤ 20 by omega)
        have p1 := pow_le B0 (show l1.length ≤ 20 by omega)
        have q1 : 18446744073709551616 ^ 20 + 18446744073709551616 ^ 20 < (18446744073709551616 : Int) ^ 21 := by decide +kernel
        have q2 : 18446744073709551616 ^ 20 * 18446744073709551616 ^ 20 < (18446744073709551616 : Int) ^ 41 := by decide +kernel
        have L1 : (dgs 18446744073709551616 (vl 18446744073709551616 l0 + vl 18446744073709551616 l1)).length ≤ 21 := ws_len _ (by omega) 21 (by omega)
        have L2 : (dgs 18446744073709551616 (vl 18446744073709551616 l0 * vl 18446744073709551616 l1)).length ≤ 41 := ws_len _ (Int.mul_nonneg n0 n1) 41 (Int.lt_of_le_of_lt (Int.mul_le_mul (by omega) (by omega) n1 (by omega)) q2)
        have L3 : (subR (vl 18446744073709551616 l0) (vl 18446744073709551616 l1)).1.length ≤ 20 := by
          unfold subR
          split
          · exact Nat.zero_le _
          · exact ws_len _ (by omega) 20 (by omega)
        have L4 : (shiftR (vl 18446744073709551616 l0) a2).1.length ≤ 25 := by
          unfold shiftR
          split
          · exact Nat.zero_le _
          · refine ws_len _ (shv_nonneg n0 a2) 25 ?_
            have := shv_lt (n := vl 18446744073709551616 l0) (w := a2 / 64) 20 (a2 % 64).toNat (by omega) n0 (by omega) 25 (by omega)
            rwa [show 64 * (a2 / 64) + ((a2 % 64).toNat : Int) = a2 by omega] at this
        have L5 : (divR (vl 18446744073709551616 l0) (vl 18446744073709551616 l1)).1.length ≤ 20 := by
          unfold divR
          split
          · exact Nat.zero_le _
          · exact ws_len _ (ediv_nn n0 n1) 20 (by have := ediv_le_self' (b := vl 18446744073709551616 l1) n0; omega)
        have L6 : (divR (vl 18446744073709551616 l0) (vl 18446744073709551616 l1)).2.1.length ≤ 20 := by
          unfold divR
          split
          · exact Nat.zero_le _
          · rename_i hz
            exact ws_len _ (Int.emod_nonneg _ hz) 20 (by have := Int.emod_lt_of_pos (vl 18446744073709551616 l0) (show 0 < vl 18446744073709551616 l1 by omega); omega)
        have w0 := words_ev l0 l0 (by omega)
        have w1 := words_ev l1 l1 (by omega)
        rw [decide_eq_true rfl] at w0 w1
        have hE : Evn (fun k => (chicorylaw03_Words.f k l0 l0).bind fun t282 => (if t282 = true then ((chicorylaw03_Words.f k l1 l1).bind fun t283 => (if t283 = true then ((chicorylaw03_awake.f k).bind fun t284 => (some t284)) else (some false))) else (some false))) true := by
          refine Evn.bind w0 (Evn.congr (fun k => by rw [if_pos rfl]) (Evn.bind w1 ?_))
          exact Evn.congr (fun k => by rw [if_pos rfl]) awake_some
        have hL := own_outer l0 l1 l0 l1 [dgs 18446744073709551616 (vl 18446744073709551616 l0 + vl 18446744073709551616 l1), dgs 18446744073709551616 (vl 18446744073709551616 l0 * vl 18446744073709551616 l1), (subR (vl 18446744073709551616 l0) (vl 18446744073709551616 l1)).1, (shiftR (vl 18446744073709551616 l0) a2).1, (divR (vl 18446744073709551616 l0) (vl 18446744073709551616 l1)).1, (divR (vl 18446744073709551616 l0) (vl 18446744073709551616 l1)).2.1] (by simp) (fun n hn => by
          have hn : n < 6 := hn
          unfold rdL
          rw [Int.toNat_natCast]
          match n, hn with
          | 0, _ => exact Nat.le_trans L1 (by decide)
          | 1, _ => exact Nat.le_trans L2 (by decide)
          | 2, _ => exact Nat.le_trans L3 (by decide)
          | 3, _ => exact Nat.le_trans L4 (by decide)
          | 4, _ => exact Nat.le_trans L5 (by decide)
          | 5, _ => exact Nat.le_trans L6 (by decide)) true hE 6 0 rfl
        have hJ : Evn (fun k => chicorylaw03_NumberOwn.j0 k l0 l1 a2 false) true := by
          refine Evn.succ (fun k => by rw [chicorylaw03_NumberOwn.j0, if_neg (by decide), if_pos (by simp only [List.length_nil]; omega), if_pos (by simp only [List.length_nil]; omega)]) (Evn.bind (add_ev l0 l1 d0 d1 (by omega) (by omega)) (Evn.bind (mul_ev l0 l1 d0 d1 (by omega) (by omega)) ?_))
          refine Evn.congr (fun k => by rw [bsome, if_pos (by simp), bsome]) (Evn.bind (sub_ev l0 l1 d0 d1 (by omega) (by omega)) (Evn.bind (shift_ev l0 d0 (by omega) a2) (Evn.bind (div_ev l0 l1 d0 d1 (by omega) (by omega)) ?_)))
          exact Evn.congr (fun k => by rw [bsome, if_pos (by simp)]; rfl) hL
        refine Evn.congr (fun k => ?_) hJ
        unfold chicorylaw03_NumberOwn.f
        rw [few_ev, few_ev, decide_eq_true h0, decide_eq_true h1, bsome, if_pos rfl, bsome, if_pos rfl, if_neg (by omega), decide_eq_false (by omega)]
      · refine Evn.congr (fun k => ?_) hA
        unfold chicorylaw03_NumberOwn.f
        rw [few_ev, few_ev, decide_eq_true h0, decide_eq_true h1, bsome, if_pos rfl, bsome, if_pos rfl]
        by_cases c : a2 < -200
        · rw [if_pos c]
        · rw [if_neg c, decide_eq_true (by omega)]
    · refine Evn.congr (fun k => ?_) hA
      unfold chicorylaw03_NumberOwn.f
      rw [few_ev, few_ev, decide_eq_true h0, decide_eq_false h1, bsome, if_pos rfl, bsome]; rfl
  · refine Evn.congr (fun k => ?_) hA
    unfold chicorylaw03_NumberOwn.f
    rw [few_ev, decide_eq_false h0, bsome, if_neg (by decide)]
end Go.Proofs.Ytdaehflffecllaa.Pure
