/- What the printed functions of package number come to: comparing, bits, sums, differences. -/
import Derived.Test.YtdaehflffecllaaNx1
import Derived.Test.YtdaehflffecllaaNx2
import Derived.Test.YtdaehflffecllaaNx3
import Derived.Test.YtdaehflffecllaaT1
import Derived.Lib.BitFns
namespace Go.Proofs.Ytdaehflffecllaa.A
open Go.RowKit Go.Proofs.YtdaehflffecllaaW.PrintWords Go.Proofs.Ytdaehflffecllaa.N Go.Proofs.Ytdaehflffecllaa.T

theorem B2 : (2 : Int) ≤ 18446744073709551616 := by omega
theorem B0 : (0 : Int) < 18446744073709551616 := by omega
theorem at_nn (l : List Int) (i : Nat) : number_Nat_at.f l (i : Int) = some (rd l (i : Int)) := by
  unfold number_Nat_at.f
  rw [if_neg (by omega)]
  by_cases h : (i : Int) ≥ (l.length : Int)
  · rw [if_pos h, rd_beyond l i (by omega)]
  · rw [if_neg h, if_pos (by omega), if_pos (by omega)]
theorem at_neg (l : List Int) (i : Int) (h : i < 0) : number_Nat_at.f l i = some 0 := by unfold number_Nat_at.f; rw [if_pos h]

theorem bit_ev (l : List Int) (h : dg 18446744073709551616 l) (i : Int) (hi : i ≤ 9223372036854775807) : number_Bit.f l i = some (bitv (vl 18446744073709551616 l) i) := by
  unfold number_Bit.f
  by_cases h0 : i < 0
  · rw [if_pos h0]; unfold bitv; rw [if_pos h0]
  · rw [if_neg h0]
    obtain ⟨j, rfl⟩ := Int.eq_ofNat_of_zero_le (show 0 ≤ i by omega)
    have e1 := tdiv_nat j 64
    have e2 := tmod_nat j 64
    rw [show ((64 : Nat) : Int) = 64 from rfl] at e1 e2
    rw [e1, e2, w64 _ (by omega) (by omega), at_nn]
    simp only [Option.bind_some]
    rw [if_pos (by omega), shr_eq _ _ (by omega)]
    have hb := rd_bd h B0 (j / 64)
    have hq := ediv_nn (b := 2 ^ (j % 64)) hb.1 (Int.le_of_lt (two_pos _))
    have hle := ediv_le_self' (b := 2 ^ (j % 64)) hb.1
    rw [and_one _ hq (by omega), w64 _ (by omega) (by omega), rd_vl h B0, bitv_nat]
    have := digit_bit (vl 18446744073709551616 l) 64 (j / 64) (j % 64) (by omega)
    rw [show 64 * (j / 64) + j % 64 = j by omega, show (2 : Int) ^ 64 = 18446744073709551616 from rfl] at this
    rw [this]

theorem cmp_ev (x y : Int) : cmp_Compare_uint64.f x y = some (cmpI x y) := by
  unfold cmp_Compare_uint64.f cmp_isNaN_uint64.f cmpI
  simp only [bne_self_eq_false, Option.bind_some, gt_iff_lt]
  rw [if_neg (by decide), if_neg (by decide)]
  split
  · rfl
  · split <;> rfl
theorem compare_loop (a b : List Int) (ha : dg 18446744073709551616 a) (hb : dg 18446744073709551616 b) : ∀ m : Nat, m ≤ 9223372036854775807 → vl 18446744073709551616 (a.drop m) = vl 18446744073709551616 (b.drop m) → Evn (fun k => number_Compare.l0 k a b ((m : Int) - 1)) (cmpI (vl 18446744073709551616 a) (vl 18446744073709551616 b)) := by
  intro m
  induction m with
  | zero =>
    intro _ h
    refine Evn.succ (h := fun _ => some 0) (fun k => by rw [number_Compare.l0, if_neg (by omega)]) (Evn.of fun _ => ?_)
    simp only [List.drop_zero] at h
    rw [h, cmpI_self]
  | succ m ih =>
    intro hm h
    have e1 := vl_drop (B := 18446744073709551616) a m
    have e2 := vl_drop (B := 18446744073709551616) b m
    have e0 : ((m + 1 : Nat) : Int) - 1 = (m : Int) := by omega
    by_cases he : rd a (m : Int) = rd b (m : Int)
    · refine Evn.succ (fun k => ?_) (ih (by omega) (by rw [e1, e2, he, h]))
      rw [number_Compare.l0, if_pos (by omega), e0, at_nn, at_nn]
      simp only [Option.bind_some]
      rw [cmp_ev]
      simp only [Option.bind_some]
      rw [if_pos (cmpI_zero.2 he), w64 _ (by omega) (by omega)]
    · rw [← vl_div ha B0] at e1
      rw [← vl_div hb B0] at e2
      rw [cmpI_div (pow_pos B0 m) e1 (by rw [e2, h]) he]
      refine Evn.succ (h := fun _ => some (cmpI (rd a (m : Int)) (rd b (m : Int)))) (fun k => ?_) (Evn.of fun _ => rfl)
      rw [number_Compare.l0, if_pos (by omega), e0, at_nn, at_nn]
      simp only [Option.bind_some]
      rw [cmp_ev]
      simp only [Option.bind_some]
      rw [if_neg (fun e => he (cmpI_zero.1 e))]
theorem mx_nat (a b : Nat) : mx (a : Int) (b : Int) = ((max a b : Nat) : Int) := by unfold mx; split <;> omega
theorem compare_ev (a b : List Int) (ha : dg 18446744073709551616 a) (hb : dg 18446744073709551616 b) (hal : a.length ≤ 1099511627776) (hbl : b.length ≤ 1099511627776) : Evn (fun k => number_Compare.f k a b) (cmpI (vl 18446744073709551616 a) (vl 18446744073709551616 b)) := by
  refine Evn.congr (fun k => by unfold number_Compare.f; rw [mx_nat, w64 _ (by omega) (by omega)]) (compare_loop a b ha hb (max a.length b.length) (by omega) ?_)
  rw [List.drop_eq_nil_of_le (by omega), List.drop_eq_nil_of_le (by omega)]

theorem add64_eval (x y c : Int) (hx : 0 ≤ x) (hy : 0 ≤ y) (hc : 0 ≤ c) (hc1 : c ≤ 1) : bits_Add64.f x y c = some ((x + y + c) % 18446744073709551616, (x + y + c) / 18446744073709551616) := by
  unfold bits_Add64.f; rw [if_pos ⟨hx, hy, hc, hc1⟩]
theorem add_loop (a b : List Int) (ha : dg 18446744073709551616 a) (hb : dg 18446744073709551616 b) (n : Nat) (hn : n ≤ 1099511627776) : ∀ (d i : Nat) (out : List Int) (c : Int), i + d = n → out.length = n → 0 ≤ c → c ≤ 1 → dg 18446744073709551616 (out.take i) →
    vl 18446744073709551616 (out.take i) + 18446744073709551616 ^ i * c = vl 18446744073709551616 (a.take i) + vl 18446744073709551616 (b.take i) →
    ∃ (o : List Int) (c' : Int), o.length = n ∧ dg 18446744073709551616 o ∧ 0 ≤ c' ∧ vl 18446744073709551616 o + 18446744073709551616 ^ n * c' = vl 18446744073709551616 (a.take n) + vl 18446744073709551616 (b.take n) ∧ Evn (fun k => number_Add.l0 k a b out c n i) (cutL o) := by
  intro d
  induction d with
  | zero =>
    intro i out c hi ho hc _ hd h
    obtain rfl : i = n := by omega
    have ht : out.take i = out := by rw [← ho]; exact List.take_length
    rw [ht] at hd h
    refine ⟨out, c, ho, hd, hc, h, ?_⟩
    exact Evn.succ (fun k => by rw [number_Add.l0, if_neg (by omega)]; rfl) (Evn.of fun _ => rfl)
  | succ d ih =>
    intro i out c hi ho hc hc1 hd h
    have ra := rd_bd ha B0 i
    have rb := rd_bd hb B0 i
    have hs0 : 0 ≤ (rd a (i : Int) + rd b (i : Int) + c) % 18446744073709551616 := by omega
    have hs1 : (rd a (i : Int) + rd b (i : Int) + c) % 18446744073709551616 < 18446744073709551616 := by omega
    obtain ⟨o, c', h1, h2, h3, h4, h5⟩ := ih (i + 1) (out.set i ((rd a (i : Int) + rd b (i : Int) + c) % 18446744073709551616)) ((rd a (i : Int) + rd b (i : Int) + c) / 18446744073709551616) (by omega) (by rw [List.length_set]; exact ho) (by omega) (by omega)
      (dg_set_take hd (by omega) hs0 hs1) (by
        rw [vl_set_take _ _ _ (by omega), vl_take_succ, vl_take_succ, Int.pow_succ]
        have e := Int.emod_add_mul_ediv (rd a (i : Int) + rd b (i : Int) + c) 18446744073709551616
        generalize (rd a (i : Int) + rd b (i : Int) + c) % 18446744073709551616 = s at *
        generalize (rd a (i : Int) + rd b (i : Int) + c) / 18446744073709551616 = q at *
        generalize (18446744073709551616 : Int) ^ i = p at *
        grind)
    refine ⟨o, c', h1, h2, h3, h4, Evn.succ (fun k => ?_) h5⟩
    simp only [number_Add.l0]
    rw [if_pos (by omega), at_nn, at_nn]
    simp only [Option.bind_some]
    rw [add64_eval _ _ _ ra.1 rb.1 hc hc1]
    simp only [Option.bind_some]
    rw [if_pos (by omega), if_pos (by omega), Int.toNat_natCast, w64 _ (by omega) (by omega)]
    rfl
theorem take_all (l : List Int) (n : Nat) (h : l.length ≤ n) : l.take n = l := List.take_of_length_le h
theorem add_ev (a b : List Int) (ha : dg 18446744073709551616 a) (hb : dg 18446744073709551616 b) (hal : a.length ≤ 1073741824) (hbl : b.length ≤ 1073741824) : Evn (fun k => number_Add.f k a b) (dgs 18446744073709551616 (vl 18446744073709551616 a + vl 18446744073709551616 b)) := by
  obtain ⟨o, c', h1, h2, h3, h4, h5⟩ := add_loop a b ha hb (max a.length b.length + 1) (by omega) (max a.length b.length + 1) 0 (List.replicate (max a.length b.length + 1) 0) 0 (by omega) (by simp) (by omega) (by omega) (by simp; exact dg_nil) (by simp [vl])
  rw [take_all a _ (by omega), take_all b _ (by omega)] at h4
  have hav := vl_lt ha B0
  have hbv := vl_lt hb B0
  have p1 := pow_le B0 (show a.length ≤ max a.length b.length by omega)
  have p2 := pow_le B0 (show b.length ≤ max a.length b.length by omega)
  have hp := pow_pos B0 (max a.length b.length)
  have ho := vl_nonneg h2 B0
  have hc : c' = 0 := by
    rw [Int.pow_succ] at h4
    generalize (18446744073709551616 : Int) ^ max a.length b.length = p at *
    by_cases hz : c' = 0
    · exact hz
    · have := Int.mul_le_mul_of_nonneg_left (show 1 ≤ c' by omega) (show 0 ≤ p * 18446744073709551616 by omega)
      omega
  rw [hc] at h4
  rw [← cut_eq B2 h2 (show vl 18446744073709551616 o = vl 18446744073709551616 a + vl 18446744073709551616 b by omega)]
  refine Evn.congr (fun k => ?_) h5
  unfold number_Add.f
  rw [mx_nat, w64 _ (by omega) (by omega), if_pos (by omega), if_pos (by omega)]
  simp only [Option.bind_some, List.length_replicate]
  rw [show ((max a.length b.length : Nat) : Int) + 1 = ((max a.length b.length + 1 : Nat) : Int) by omega, Int.toNat_natCast]
  rfl

theorem sub64_eval (x y c : Int) (hx : 0 ≤ x) (hy : 0 ≤ y) (hy1 : y < 18446744073709551616) (hc : 0 ≤ c) (hc1 : c ≤ 1) : bits_Sub64.f x y c = some ((x - y - c) % 18446744073709551616, if x < y + c then 1 else 0) := by
  unfold bits_Sub64.f; rw [if_pos ⟨hx, hy, hy1, hc, hc1⟩]
theorem sub_loop (a b : List Int) (ha : dg 18446744073709551616 a) (hb : dg 18446744073709551616 b) (n : Nat) (hn : n ≤ 1099511627776) (hna : n = a.length) : ∀ (d i : Nat) (out : List Int) (c : Int), i + d = n → out.length = n → 0 ≤ c → c ≤ 1 → dg 18446744073709551616 (out.take i) →
    vl 18446744073709551616 (out.take i) - 18446744073709551616 ^ i * c = vl 18446744073709551616 (a.take i) - vl 18446744073709551616 (b.take i) →
    ∃ (o : List Int) (c' : Int), o.length = n ∧ dg 18446744073709551616 o ∧ 0 ≤ c' ∧ vl 18446744073709551616 o - 18446744073709551616 ^ n * c' = vl 18446744073709551616 (a.take n) - vl 18446744073709551616 (b.take n) ∧ Evn (fun k => number_Sub.l0 k a b out c n i) (cutL o, 0) := by
  intro d
  induction d with
  | zero =>
    intro i out c hi ho hc _ hd h
    obtain rfl : i = n := by omega
    have ht : out.take i = out := by rw [← ho]; exact List.take_length
    rw [ht] at hd h
    refine ⟨out, c, ho, hd, hc, h, ?_⟩
    exact Evn.succ (fun k => by rw [number_Sub.l0, if_neg (by omega)]; rfl) (Evn.of fun _ => rfl)
  | succ d ih =>
    intro i out c hi ho hc hc1 hd h
    have ra := rd_bd ha B0 i
    have rb := rd_bd hb B0 i
    have hq0 : (0 : Int) ≤ (if rd a (i : Int) < rd b (i : Int) + c then 1 else 0) := by split <;> omega
    have hq1 : (if rd a (i : Int) < rd b (i : Int) + c then 1 else 0 : Int) ≤ 1 := by split <;> omega
    have hs0 : 0 ≤ (rd a (i : Int) - rd b (i : Int) - c) % 18446744073709551616 := by omega
    have hs1 : (rd a (i : Int) - rd b (i : Int) - c) % 18446744073709551616 < 18446744073709551616 := by omega
    obtain ⟨o, c', h1, h2, h3, h4, h5⟩ := ih (i + 1) (out.set i ((rd a (i : Int) - rd b (i : Int) - c) % 18446744073709551616)) (if rd a (i : Int) < rd b (i : Int) + c then 1 else 0) (by omega) (by rw [List.length_set]; exact ho) hq0 hq1
      (dg_set_take hd (by omega) hs0 hs1) (by
        rw [vl_set_take _ _ _ (by omega), vl_take_succ, vl_take_succ, Int.pow_succ]
        have e : (rd a (i : Int) - rd b (i : Int) - c) % 18446744073709551616 = rd a (i : Int) - rd b (i : Int) - c + 18446744073709551616 * (if rd a (i : Int) < rd b (i : Int) + c then 1 else 0) := by split <;> omega
        generalize (rd a (i : Int) - rd b (i : Int) - c) % 18446744073709551616 = s at *
        generalize (if rd a (i : Int) < rd b (i : Int) + c then 1 else 0 : Int) = q at *
        generalize (18446744073709551616 : Int) ^ i = p at *
        grind)
    refine ⟨o, c', h1, h2, h3, h4, Evn.succ (fun k => ?_) h5⟩
    simp only [number_Sub.l0]
    rw [if_pos (by omega), if_pos (by omega), if_pos (by omega), at_nn]
    simp only [Option.bind_some]
    rw [sub64_eval _ _ _ ra.1 rb.1 rb.2 hc hc1]
    simp only [Option.bind_some]
    rw [if_pos (by omega), Int.toNat_natCast, w64 _ (by omega) (by omega)]
    rfl
/-- One less another one, or ErrRange. -/
def subR (a b : Int) : List Int × Int := if a < b then ([], 10) else (dgs 18446744073709551616 (a - b), 0)
theorem sub_ev (a b : List Int) (ha : dg 18446744073709551616 a) (hb : dg 18446744073709551616 b) (hal : a.length ≤ 1073741824) (hbl : b.length ≤ 1073741824) : Evn (fun k => number_Sub.f k a b) (subR (vl 18446744073709551616 a) (vl 18446744073709551616 b)) := by
  refine Evn.congr (fun k => by unfold number_Sub.f; rfl) (Evn.bind (compare_ev a b ha hb (by omega) (by omega)) ?_)
  unfold subR
  by_cases hlt : vl 18446744073709551616 a < vl 18446744073709551616 b
  · rw [if_pos hlt]
    exact Evn.of fun k => by rw [if_pos (cmpI_lt.2 hlt)]
  · rw [if_neg hlt]
    obtain ⟨o, c', h1, h2, h3, h4, h5⟩ := sub_loop a b ha hb a.length (by omega) rfl a.length 0 (List.replicate a.length 0) 0 (by omega) (by simp) (by omega) (by omega) (by simp; exact dg_nil) (by simp [vl])
    rw [List.take_length] at h4
    have hav := vl_lt ha B0
    have hbm : vl 18446744073709551616 (b.take a.length) = vl 18446744073709551616 b := by
      rw [← vl_mod hb B0]
      exact Int.emod_eq_of_lt (vl_nonneg hb B0) (by omega)
    rw [hbm] at h4
    have ho := vl_lt h2 B0
    rw [h1] at ho
    have hb0 := vl_nonneg hb B0
    have hp := pow_pos B0 a.length
    have hc : c' = 0 := by
      generalize (18446744073709551616 : Int) ^ a.length = p at *
      by_cases hz : c' = 0
      · exact hz
      · have := Int.mul_le_mul_of_nonneg_left (show 1 ≤ c' by omega) (show 0 ≤ p by omega)
        omega
    rw [hc] at h4
    rw [← cut_eq B2 h2 (show vl 18446744073709551616 o = vl 18446744073709551616 a - vl 18446744073709551616 b by omega)]
    refine Evn.congr (fun k => ?_) h5
    rw [if_neg (fun e => hlt (cmpI_lt.1 e)), if_pos (by omega), if_pos (by omega)]
    simp only [Option.bind_some, List.length_replicate, Int.toNat_natCast]
    rfl

theorem bitLen_nbit : ∀ (f n : Nat), n < 2 ^ f → (Lib.bitLenAux f n : Int) = nbit n := by
  intro f
  induction f with
  | zero => intro n h; rw [show n = 0 by simpa using h]; rfl
  | succ f ih =>
    intro n hn
    by_cases h : n = 0
    · subst h; rfl
    · rw [Lib.bitLenAux, if_neg h, Int.natCast_add, ih (n / 2) (by rw [Nat.pow_succ] at hn; omega)]
      by_cases h1 : n = 1
      · subst h1; decide
      · have hp : (0 : Int) < ((n / 2 : Nat) : Int) := by omega
        have g := nbit_ge hp
        have l := nbit_lt (n := ((n / 2 : Nat) : Int)) (by omega)
        have np := nbit_pos hp
        obtain ⟨m, hm⟩ : ∃ m : Nat, nbit ((n / 2 : Nat) : Int) = m + 1 := ⟨(nbit ((n / 2 : Nat) : Int)).toNat - 1, by omega⟩
        rw [hm] at g l ⊢
        rw [show ((m : Int) + 1).toNat - 1 = m by omega] at g
        rw [show ((m : Int) + 1).toNat = m + 1 by omega] at l
        have u := nbit_unique (n := (n : Int)) (m := m + 1) (by rw [Int.pow_succ]; omega) (by rw [Int.pow_succ]; omega)
        omega
theorem len_ev (a : List Int) (ha : dg 18446744073709551616 a) (hal : a.length ≤ 1073741824) : Evn (fun k => number_Len.f k a) (nbit (vl 18446744073709551616 a)) := by
  have hnn := vl_nonneg ha B0
  refine Evn.congr (fun k => by unfold number_Len.f number_Nat_cut.f; rw [cut_dgs B2 a ha]) (Evn.of fun k => ?_)
  simp only [Option.bind_some]
  rcases snoc_cases (dgs 18446744073709551616 (vl 18446744073709551616 a)) with hz | ⟨m, x, hm⟩
  · rw [hz, if_pos (by rfl), (dgs_nil_iff B2 _ hnn).1 hz, nbit_zero]
  · have hx := dgs_last B2 _ hnn m x hm
    have hd := dgs_dg B2 _ hnn
    have hv := vl_dgs B2 _ hnn
    have hlen := dgs_len_le B2 _ hnn a.length (vl_lt ha B0)
    rw [hm] at hd hv hlen ⊢
    have hdm : dg 18446744073709551616 m := fun y hy => hd y (List.mem_append_left _ hy)
    have hxb := hd x (List.mem_append_right _ (List.mem_singleton.2 rfl))
    simp only [List.length_append, List.length_singleton] at hlen ⊢
    have hr : rd (m ++ [x]) (m.length : Int) = x := by rw [rd_get _ _ (by simp)]; simp
    rw [if_neg (by omega), w64 _ (by omega) (by omega), if_pos (by omega), if_pos (by omega), show ((m.length + 1 : Nat) : Int) - 1 = (m.length : Int) by omega, hr]
    unfold bits_Len64.f
    rw [if_pos (by omega), show Lib.bitLen x.toNat = Lib.bitLenAux 64 x.toNat from rfl, bitLen_nbit 64 _ (by omega), Int.toNat_of_nonneg hxb.1]
    simp only [Option.bind_some]
    have hn64 : nbit x ≤ 64 := nbit_le (n := x) (m := 64) (by have : (2 : Int) ^ 64 = 18446744073709551616 := rfl
                                                              omega)
    have hn0 := nbit_nonneg x
    rw [w64 (64 * (m.length : Int)) (by omega) (by omega), w64 _ (by omega) (by omega)]
    have hxp : 0 < x := by omega
    have g := nbit_ge hxp
    have l := nbit_lt hxb.1
    have np := nbit_pos hxp
    obtain ⟨t, ht⟩ : ∃ t : Nat, nbit x = t + 1 := ⟨(nbit x).toNat - 1, by omega⟩
    rw [ht] at g l ⊢
    rw [show ((t : Int) + 1).toNat - 1 = t by omega] at g
    rw [show ((t : Int) + 1).toNat = t + 1 by omega] at l
    rw [vl_append, vl_one] at hv
    have hml := vl_lt hdm B0
    have hm0 := vl_nonneg hdm B0
    have hp : (18446744073709551616 : Int) ^ m.length = 2 ^ (64 * m.length) := by rw [Int.pow_mul]; rfl
    rw [hp] at hv hml
    have e1 : (2 : Int) ^ (64 * m.length + t) = 2 ^ (64 * m.length) * 2 ^ t := Int.pow_add ..
    have e2 : (2 : Int) ^ (64 * m.length + t + 1) = 2 ^ (64 * m.length) * 2 ^ (t + 1) := by rw [← Int.pow_add]; rfl
    have hpp := two_pos (64 * m.length)
    have u := nbit_unique (n := vl 18446744073709551616 a) (m := 64 * m.length + t) (by
      rw [e1, ← hv]
      have := Int.mul_le_mul_of_nonneg_left g (Int.le_of_lt hpp)
      omega) (by
      rw [e2, ← hv]
      have := Int.mul_le_mul_of_nonneg_left (show x + 1 ≤ 2 ^ (t + 1) by omega) (Int.le_of_lt hpp)
      rw [Int.mul_add] at this
      omega)
    rw [u]
    congr 1
end Go.Proofs.Ytdaehflffecllaa.A
