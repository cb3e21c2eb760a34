/- The law ScalarSame returns true whatever the input: A0 of its proof; no condition. (Joined by wip/shake.py.) -/
import Derived.Test.YtdaehflffecllaaMScalarSameN0
import Derived.Test.YtdaehflffecllaaMScalarSameN1
import Derived.Test.YtdaehflffecllaaMScalarSameT1
import Derived.Lib.BitFns
import Derived.Test.YtdaehflffecllaaMScalarSameN3
import Derived.Test.YtdaehflffecllaaMScalarSameB0
import Derived.Lib.Mul64
import Derived.Test.YtdaehflffecllaaMScalarSameN2
namespace Go.Proofs.Ytdaehflffecllaa.A
open Go.RowKit Go.Proofs.YtdaehflffecllaaW.PrintWords Go.Proofs.Ytdaehflffecllaa.N Go.Proofs.Ytdaehflffecllaa.T
theorem B2 : (2 : Int) ≤ 18446744073709551616 := by omega
theorem B0 : (0 : Int) < 18446744073709551616 := by omega
theorem at_nn (l : List Int) (i : Nat) : number_Nat_at.f l (i : Int) = some (rd l (i : Int)) := by
  unfold number_Nat_at.f
  rw [if_neg (by omega)]
  by_cases h : (i : Int) ≥ (l.length : Int)
  · rw [if_pos h, rd_beyond l i (by omega)]
  · rw [if_neg h, if_pos (by omega), if_pos (by omega)]
theorem at_neg (l : List Int) (i : Int) (h : i < 0) : number_Nat_at.f l i = some 0 := by unfold number_Nat_at.f; rw [if_pos h]
theorem cmp_ev (x y : Int) : cmp_Compare_uint64.f x y = some (cmpI x y) := by
  unfold cmp_Compare_uint64.f cmp_isNaN_uint64.f cmpI
  simp only [bne_self_eq_false, Option.bind_some, gt_iff_lt]
  rw [if_neg (by decide), if_neg (by decide)]
  split
  · rfl
  · split <;> rfl
theorem compare_loop (a b : List Int) (ha : dg 18446744073709551616 a) (hb : dg 18446744073709551616 b) : ∀ m : Nat, m ≤ 9223372036854775807 → vl 18446744073709551616 (a.drop m) = vl 18446744073709551616 (b.drop m) → Evn (fun k => number_Compare.l0 k a b ((m : Int) - 1)) (cmpI (vl 18446744073709551616 a) (vl 18446744073709551616 b)) := by
  intro m
  induction m with
  | zero =>
    intro _ h
    refine Evn.succ (h := fun _ => some 0) (fun k => by rw [number_Compare.l0, if_neg (by omega)]) (Evn.of fun _ => ?_)
    simp only [List.drop_zero] at h
    rw [h, cmpI_self]
  | succ m ih =>
    intro hm h
    have e1 := vl_drop (B := 18446744073709551616) a m
    have e2 := vl_drop (B := 18446744073709551616) b m
    have e0 : ((m + 1 : Nat) : Int) - 1 = (m : Int) := by omega
    by_cases he : rd a (m : Int) = rd b (m : Int)
    · refine Evn.succ (fun k => ?_) (ih (by omega) (by rw [e1, e2, he, h]))
      rw [number_Compare.l0, if_pos (by omega), e0, at_nn, at_nn]
      simp only [Option.bind_some]
      rw [cmp_ev]
      simp only [Option.bind_some]
      rw [if_pos (cmpI_zero.2 he), w64 _ (by omega) (by omega)]
    · rw [← vl_div ha B0] at e1
      rw [← vl_div hb B0] at e2
      rw [cmpI_div (pow_pos B0 m) e1 (by rw [e2, h]) he]
      refine Evn.succ (h := fun _ => some (cmpI (rd a (m : Int)) (rd b (m : Int)))) (fun k => ?_) (Evn.of fun _ => rfl)
      rw [number_Compare.l0, if_pos (by omega), e0, at_nn, at_nn]
      simp only [Option.bind_some]
      rw [cmp_ev]
      simp only [Option.bind_some]
      rw [if_neg (fun e => he (cmpI_zero.1 e))]
theorem mx_nat (a b : Nat) : mx (a : Int) (b : Int) = ((max a b : Nat) : Int) := by unfold mx; split <;> omega
theorem compare_ev (a b : List Int) (ha : dg 18446744073709551616 a) (hb : dg 18446744073709551616 b) (hal : a.length ≤ 1099511627776) (hbl : b.length ≤ 1099511627776) : Evn (fun k => number_Compare.f k a b) (cmpI (vl 18446744073709551616 a) (vl 18446744073709551616 b)) := by
  refine Evn.congr (fun k => by unfold number_Compare.f; rw [mx_nat, w64 _ (by omega) (by omega)]) (compare_loop a b ha hb (max a.length b.length) (by omega) ?_)
  rw [List.drop_eq_nil_of_le (by omega), List.drop_eq_nil_of_le (by omega)]
theorem add64_eval (x y c : Int) (hx : 0 ≤ x) (hy : 0 ≤ y) (hc : 0 ≤ c) (hc1 : c ≤ 1) : bits_Add64.f x y c = some ((x + y + c) % 18446744073709551616, (x + y + c) / 18446744073709551616) := by
  unfold bits_Add64.f; rw [if_pos ⟨hx, hy, hc, hc1⟩]
theorem add_loop (a b : List Int) (ha : dg 18446744073709551616 a) (hb : dg 18446744073709551616 b) (n : Nat) (hn : n ≤ 1099511627776) : ∀ (d i : Nat) (out : List Int) (c : Int), i + d = n → out.length = n → 0 ≤ c → c ≤ 1 → dg 18446744073709551616 (out.take i) →
    vl 18446744073709551616 (out.take i) + 18446744073709551616 ^ i * c = vl 18446744073709551616 (a.take i) + vl 18446744073709551616 (b.take i) →
    ∃ (o : List Int) (c' : Int), o.length = n ∧ dg 18446744073709551616 o ∧ 0 ≤ c' ∧ vl 18446744073709551616 o + 18446744073709551616 ^ n * c' = vl 18446744073709551616 (a.take n) + vl 18446744073709551616 (b.take n) ∧ Evn (fun k => number_Add.l0 k a b out c n i) (cutL o) := by
  intro d
  induction d with
  | zero =>
    intro i out c hi ho hc _ hd h
    obtain rfl : i = n := by omega
    have ht : out.take i = out := by rw [← ho]; exact List.take_length
    rw [ht] at hd h
    refine ⟨out, c, ho, hd, hc, h, ?_⟩
    exact Evn.succ (fun k => by rw [number_Add.l0, if_neg (by omega)]; rfl) (Evn.of fun _ => rfl)
  | succ d ih =>
    intro i out c hi ho hc hc1 hd h
    have ra := rd_bd ha B0 i
    have rb := rd_bd hb B0 i
    have hs0 : 0 ≤ (rd a (i : Int) + rd b (i : Int) + c) % 18446744073709551616 := by omega
    have hs1 : (rd a (i : Int) + rd b (i : Int) + c) % 18446744073709551616 < 18446744073709551616 := by omega
    obtain ⟨o, c', h1, h2, h3, h4, h5⟩ := ih (i + 1) (out.set i ((rd a (i : Int) + rd b (i : Int) + c) % 18446744073709551616)) ((rd a (i : Int) + rd b (i : Int) + c) / 18446744073709551616) (by omega) (by rw [List.length_set]; exact ho) (by omega) (by omega)
      (dg_set_take hd (by omega) hs0 hs1) (by
        rw [vl_set_take _ _ _ (by omega), vl_take_succ, vl_take_succ, Int.pow_succ]
        have e := Int.emod_add_mul_ediv (rd a (i : Int) + rd b (i : Int) + c) 18446744073709551616
        generalize (rd a (i : Int) + rd b (i : Int) + c) % 18446744073709551616 = s at *
        generalize (rd a (i : Int) + rd b (i : Int) + c) / 18446744073709551616 = q at *
        generalize (18446744073709551616 : Int) ^ i = p at *
        grind)
    refine ⟨o, c', h1, h2, h3, h4, Evn.succ (fun k => ?_) h5⟩
    simp only [number_Add.l0]
    rw [if_pos (by omega), at_nn, at_nn]
    simp only [Option.bind_some]
    rw [add64_eval _ _ _ ra.1 rb.1 hc hc1]
    simp only [Option.bind_some]
    rw [if_pos (by omega), if_pos (by omega), Int.toNat_natCast, w64 _ (by omega) (by omega)]
    rfl
theorem take_all (l : List Int) (n : Nat) (h : l.length ≤ n) : l.take n = l := List.take_of_length_le h
theorem add_ev (a b : List Int) (ha : dg 18446744073709551616 a) (hb : dg 18446744073709551616 b) (hal : a.length ≤ 1073741824) (hbl : b.length ≤ 1073741824) : Evn (fun k => number_Add.f k a b) (dgs 18446744073709551616 (vl 18446744073709551616 a + vl 18446744073709551616 b)) := by
  obtain ⟨o, c', h1, h2, h3, h4, h5⟩ := add_loop a b ha hb (max a.length b.length + 1) (by omega) (max a.length b.length + 1) 0 (List.replicate (max a.length b.length + 1) 0) 0 (by omega) (by simp) (by omega) (by omega) (by simp; exact dg_nil) (by simp [vl])
  rw [take_all a _ (by omega), take_all b _ (by omega)] at h4
  have hav := vl_lt ha B0
  have hbv := vl_lt hb B0
  have p1 := pow_le B0 (show a.length ≤ max a.length b.length by omega)
  have p2 := pow_le B0 (show b.length ≤ max a.length b.length by omega)
  have hp := pow_pos B0 (max a.length b.length)
  have ho := vl_nonneg h2 B0
  have hc : c' = 0 := by
    rw [Int.pow_succ] at h4
    generalize (18446744073709551616 : Int) ^ max a.length b.length = p at *
    by_cases hz : c' = 0
    · exact hz
    · have := Int.mul_le_mul_of_nonneg_left (show 1 ≤ c' by omega) (show 0 ≤ p * 18446744073709551616 by omega)
      omega
  rw [hc] at h4
  rw [← cut_eq B2 h2 (show vl 18446744073709551616 o = vl 18446744073709551616 a + vl 18446744073709551616 b by omega)]
  refine Evn.congr (fun k => ?_) h5
  unfold number_Add.f
  rw [mx_nat, w64 _ (by omega) (by omega), if_pos (by omega), if_pos (by omega)]
  simp only [Option.bind_some, List.length_replicate]
  rw [show ((max a.length b.length : Nat) : Int) + 1 = ((max a.length b.length + 1 : Nat) : Int) by omega, Int.toNat_natCast]
  rfl
theorem sub64_eval (x y c : Int) (hx : 0 ≤ x) (hy : 0 ≤ y) (hy1 : y < 18446744073709551616) (hc : 0 ≤ c) (hc1 : c ≤ 1) : bits_Sub64.f x y c = some ((x - y - c) % 18446744073709551616, if x < y + c then 1 else 0) := by
  unfold bits_Sub64.f; rw [if_pos ⟨hx, hy, hy1, hc, hc1⟩]
theorem sub_loop (a b : List Int) (ha : dg 18446744073709551616 a) (hb : dg 18446744073709551616 b) (n : Nat) (hn : n ≤ 1099511627776) (hna : n = a.length) : ∀ (d i : Nat) (out : List Int) (c : Int), i + d = n → out.length = n → 0 ≤ c → c ≤ 1 → dg 18446744073709551616 (out.take i) →
    vl 18446744073709551616 (out.take i) - 18446744073709551616 ^ i * c = vl 18446744073709551616 (a.take i) - vl 18446744073709551616 (b.take i) →
    ∃ (o : List Int) (c' : Int), o.length = n ∧ dg 18446744073709551616 o ∧ 0 ≤ c' ∧ vl 18446744073709551616 o - 18446744073709551616 ^ n * c' = vl 18446744073709551616 (a.take n) - vl 18446744073709551616 (b.take n) ∧ Evn (fun k => number_Sub.l0 k a b out c n i) (cutL o, 0) := by
  intro d
  induction d with
  | zero =>
    intro i out c hi ho hc _ hd h
    obtain rfl : i = n := by omega
    have ht : out.take i = out := by rw [← ho]; exact List.take_length
    rw [ht] at hd h
    refine ⟨out, c, ho, hd, hc, h, ?_⟩
    exact Evn.succ (fun k => by rw [number_Sub.l0, if_neg (by omega)]; rfl) (Evn.of fun _ => rfl)
  | succ d ih =>
    intro i out c hi ho hc hc1 hd h
    have ra := rd_bd ha B0 i
    have rb := rd_bd hb B0 i
    have hq0 : (0 : Int) ≤ (if rd a (i : Int) < rd b (i : Int) + c then 1 else 0) := by split <;> omega
    have hq1 : (if rd a (i : Int) < rd b (i : Int) + c then 1 else 0 : Int) ≤ 1 := by split <;> omega
    have hs0 : 0 ≤ (rd a (i : Int) - rd b (i : Int) - c) % 18446744073709551616 := by omega
    have hs1 : (rd a (i : Int) - rd b (i : Int) - c) % 18446744073709551616 < 18446744073709551616 := by omega
    obtain ⟨o, c', h1, h2, h3, h4, h5⟩ := ih (i + 1) (out.set i ((rd a (i : Int) - rd b (i : Int) - c) % 18446744073709551616)) (if rd a (i : Int) < rd b (i : Int) + c then 1 else 0) (by omega) (by rw [List.length_set]; exact ho) hq0 hq1
      (dg_set_take hd (by omega) hs0 hs1) (by
        rw [vl_set_take _ _ _ (by omega), vl_take_succ, vl_take_succ, Int.pow_succ]
        have e : (rd a (i : Int) - rd b (i : Int) - c) % 18446744073709551616 = rd a (i : Int) - rd b (i : Int) - c + 18446744073709551616 * (if rd a (i : Int) < rd b (i : Int) + c then 1 else 0) := by split <;> omega
        generalize (rd a (i : Int) - rd b (i : Int) - c) % 18446744073709551616 = s at *
        generalize (if rd a (i : Int) < rd b (i : Int) + c then 1 else 0 : Int) = q at *
        generalize (18446744073709551616 : Int) ^ i = p at *
        grind)
    refine ⟨o, c', h1, h2, h3, h4, Evn.succ (fun k => ?_) h5⟩
    simp only [number_Sub.l0]
    rw [if_pos (by omega), if_pos (by omega), if_pos (by omega), at_nn]
    simp only [Option.bind_some]
    rw [sub64_eval _ _ _ ra.1 rb.1 rb.2 hc hc1]
    simp only [Option.bind_some]
    rw [if_pos (by omega), Int.toNat_natCast, w64 _ (by omega) (by omega)]
    rfl
/-- One less another one, or ErrRange. -/
def subR (a b : Int) : List Int × Int := if a < b then ([], 10) else (dgs 18446744073709551616 (a - b), 0)
theorem sub_ev (a b : List Int) (ha : dg 18446744073709551616 a) (hb : dg 18446744073709551616 b) (hal : a.length ≤ 1073741824) (hbl : b.length ≤ 1073741824) : Evn (fun k => number_Sub.f k a b) (subR (vl 18446744073709551616 a) (vl 18446744073709551616 b)) := by
  refine Evn.congr (fun k => by unfold number_Sub.f; rfl) (Evn.bind (compare_ev a b ha hb (by omega) (by omega)) ?_)
  unfold subR
  by_cases hlt : vl 18446744073709551616 a < vl 18446744073709551616 b
  · rw [if_pos hlt]
    exact Evn.of fun k => by rw [if_pos (cmpI_lt.2 hlt)]
  · rw [if_neg hlt]
    obtain ⟨o, c', h1, h2, h3, h4, h5⟩ := sub_loop a b ha hb a.length (by omega) rfl a.length 0 (List.replicate a.length 0) 0 (by omega) (by simp) (by omega) (by omega) (by simp; exact dg_nil) (by simp [vl])
    rw [List.take_length] at h4
    have hav := vl_lt ha B0
    have hbm : vl 18446744073709551616 (b.take a.length) = vl 18446744073709551616 b := by
      rw [← vl_mod hb B0]
      exact Int.emod_eq_of_lt (vl_nonneg hb B0) (by omega)
    rw [hbm] at h4
    have ho := vl_lt h2 B0
    rw [h1] at ho
    have hb0 := vl_nonneg hb B0
    have hp := pow_pos B0 a.length
    have hc : c' = 0 := by
      generalize (18446744073709551616 : Int) ^ a.length = p at *
      by_cases hz : c' = 0
      · exact hz
      · have := Int.mul_le_mul_of_nonneg_left (show 1 ≤ c' by omega) (show 0 ≤ p by omega)
        omega
    rw [hc] at h4
    rw [← cut_eq B2 h2 (show vl 18446744073709551616 o = vl 18446744073709551616 a - vl 18446744073709551616 b by omega)]
    refine Evn.congr (fun k => ?_) h5
    rw [if_neg (fun e => hlt (cmpI_lt.1 e)), if_pos (by omega), if_pos (by omega)]
    simp only [Option.bind_some, List.length_replicate, Int.toNat_natCast]
    rfl
theorem bitLen_nbit : ∀ (f n : Nat), n < 2 ^ f → (Lib.bitLenAux f n : Int) = nbit n := by
  intro f
  induction f with
  | zero => intro n h; rw [show n = 0 by simpa using h]; rfl
  | succ f ih =>
    intro n hn
    by_cases h : n = 0
    · subst h; rfl
    · rw [Lib.bitLenAux, if_neg h, Int.natCast_add, ih (n / 2) (by rw [Nat.pow_succ] at hn; omega)]
      by_cases h1 : n = 1
      · subst h1; decide
      · have hp : (0 : Int) < ((n / 2 : Nat) : Int) := by omega
        have g := nbit_ge hp
        have l := nbit_lt (n := ((n / 2 : Nat) : Int)) (by omega)
        have np := nbit_pos hp
        obtain ⟨m, hm⟩ : ∃ m : Nat, nbit ((n / 2 : Nat) : Int) = m + 1 := ⟨(nbit ((n / 2 : Nat) : Int)).toNat - 1, by omega⟩
        rw [hm] at g l ⊢
        rw [show ((m : Int) + 1).toNat - 1 = m by omega] at g
        rw [show ((m : Int) + 1).toNat = m + 1 by omega] at l
        have u := nbit_unique (n := (n : Int)) (m := m + 1) (by rw [Int.pow_succ]; omega) (by rw [Int.pow_succ]; omega)
        omega
theorem len_ev (a : List Int) (ha : dg 18446744073709551616 a) (hal : a.length ≤ 1073741824) : Evn (fun k => number_Len.f k a) (nbit (vl 18446744073709551616 a)) := by
  have hnn := vl_nonneg ha B0
  refine Evn.congr (fun k => by unfold number_Len.f number_Nat_cut.f; rw [cut_dgs B2 a ha]) (Evn.of fun k => ?_)
  simp only [Option.bind_some]
  rcases snoc_cases (dgs 18446744073709551616 (vl 18446744073709551616 a)) with hz | ⟨m, x, hm⟩
  · rw [hz, if_pos (by rfl), (dgs_nil_iff B2 _ hnn).1 hz, nbit_zero]
  · have hx := dgs_last B2 _ hnn m x hm
    have hd := dgs_dg B2 _ hnn
    have hv := vl_dgs B2 _ hnn
    have hlen := dgs_len_le B2 _ hnn a.length (vl_lt ha B0)
    rw [hm] at hd hv hlen ⊢
    have hdm : dg 18446744073709551616 m := fun y hy => hd y (List.mem_append_left _ hy)
    have hxb := hd x (List.mem_append_right _ (List.mem_singleton.2 rfl))
    simp only [List.length_append, List.length_singleton] at hlen ⊢
    have hr : rd (m ++ [x]) (m.length : Int) = x := by rw [rd_get _ _ (by simp)]; simp
    rw [if_neg (by omega), w64 _ (by omega) (by omega), if_pos (by omega), if_pos (by omega), show ((m.length + 1 : Nat) : Int) - 1 = (m.length : Int) by omega, hr]
    unfold bits_Len64.f
    rw [if_pos (by omega), show Lib.bitLen x.toNat = Lib.bitLenAux 64 x.toNat from rfl, bitLen_nbit 64 _ (by omega), Int.toNat_of_nonneg hxb.1]
    simp only [Option.bind_some]
    have hn64 : nbit x ≤ 64 := nbit_le (n := x) (m := 64) (by have : (2 : Int) ^ 64 = 18446744073709551616 := rfl
                                                              omega)
    have hn0 := nbit_nonneg x
    rw [w64 (64 * (m.length : Int)) (by omega) (by omega), w64 _ (by omega) (by omega)]
    have hxp : 0 < x := by omega
    have g := nbit_ge hxp
    have l := nbit_lt hxb.1
    have np := nbit_pos hxp
    obtain ⟨t, ht⟩ : ∃ t : Nat, nbit x = t + 1 := ⟨(nbit x).toNat - 1, by omega⟩
    rw [ht] at g l ⊢
    rw [show ((t : Int) + 1).toNat - 1 = t by omega] at g
    rw [show ((t : Int) + 1).toNat = t + 1 by omega] at l
    rw [vl_append, vl_one] at hv
    have hml := vl_lt hdm B0
    have hm0 := vl_nonneg hdm B0
    have hp : (18446744073709551616 : Int) ^ m.length = 2 ^ (64 * m.length) := by rw [Int.pow_mul]; rfl
    rw [hp] at hv hml
    have e1 : (2 : Int) ^ (64 * m.length + t) = 2 ^ (64 * m.length) * 2 ^ t := Int.pow_add ..
    have e2 : (2 : Int) ^ (64 * m.length + t + 1) = 2 ^ (64 * m.length) * 2 ^ (t + 1) := by rw [← Int.pow_add]; rfl
    have hpp := two_pos (64 * m.length)
    have u := nbit_unique (n := vl 18446744073709551616 a) (m := 64 * m.length + t) (by
      rw [e1, ← hv]
      have := Int.mul_le_mul_of_nonneg_left g (Int.le_of_lt hpp)
      omega) (by
      rw [e2, ← hv]
      have := Int.mul_le_mul_of_nonneg_left (show x + 1 ≤ 2 ^ (t + 1) by omega) (Int.le_of_lt hpp)
      rw [Int.mul_add] at this
      omega)
    rw [u]
    congr 1
end Go.Proofs.Ytdaehflffecllaa.A
namespace Go.Proofs.Ytdaehflffecllaa.A
open Go.RowKit Go.Proofs.YtdaehflffecllaaW.PrintWords Go.Proofs.Ytdaehflffecllaa.N Go.Proofs.Ytdaehflffecllaa.T
theorem maskN (a : Nat) (ha : a < 18446744073709551616) : Go.bits .and .u64 (a : Int) 4294967295 = ((a % 4294967296 : Nat) : Int) := by
  have h := bits_and_u64_nat a 4294967295 ha (by omega)
  have e : a &&& 4294967295 = a % 4294967296 := Nat.and_two_pow_sub_one_eq_mod a 32
  rw [e] at h
  exact h
theorem divN (a : Nat) : (a : Int) / 4294967296 = ((a / 4294967296 : Nat) : Int) := by omega
theorem mulN (a b : Nat) : (a : Int) * (b : Int) = ((a * b : Nat) : Int) := (Int.natCast_mul a b).symm
theorem addN (a b : Nat) : (a : Int) + (b : Int) = ((a + b : Nat) : Int) := (Int.natCast_add a b).symm
theorem wrapN (a : Nat) (ha : a < 18446744073709551616) : IntKind.u64.wrap (a : Int) = (a : Int) := by rw [IntKind.wrap_u64]; omega
theorem wrapM (a : Nat) : IntKind.u64.wrap (a : Int) = ((a % 18446744073709551616 : Nat) : Int) := by rw [IntKind.wrap_u64]; omega
theorem mul64_nat (x y : Nat) (hx : x < 18446744073709551616) (hy : y < 18446744073709551616) : bits_Mul64.f (x : Int) (y : Int) = some (((x * y / 18446744073709551616 : Nat) : Int), ((x * y % 18446744073709551616 : Nat) : Int)) := by
  obtain ⟨bd, bt, bw, hhi⟩ := Lib.mul64_hi x y hx hy
  have ba := Lib.half_mul_le (a := x / 4294967296) (b := y / 4294967296) (by omega) (by omega)
  have bb := Lib.half_mul_le (a := x / 4294967296) (b := y % 4294967296) (by omega) (by omega)
  have bc := Lib.half_mul_le (a := x % 4294967296) (b := y / 4294967296) (by omega) (by omega)
  have ba' : x / 4294967296 * (y / 4294967296) < 18446744073709551616 := by omega
  have bb' : x / 4294967296 * (y % 4294967296) < 18446744073709551616 := by omega
  have bc' : x % 4294967296 * (y / 4294967296) < 18446744073709551616 := by omega
  have bh1 : x / 4294967296 * (y / 4294967296) + (x / 4294967296 * (y % 4294967296) + x % 4294967296 * (y % 4294967296) / 4294967296) / 4294967296 < 18446744073709551616 := by omega
  have bh : x / 4294967296 * (y / 4294967296) + (x / 4294967296 * (y % 4294967296) + x % 4294967296 * (y % 4294967296) / 4294967296) / 4294967296 + ((x / 4294967296 * (y % 4294967296) + x % 4294967296 * (y % 4294967296) / 4294967296) % 4294967296 + x % 4294967296 * (y / 4294967296)) / 4294967296 < 18446744073709551616 := by omega
  unfold bits_Mul64.f
  simp only [maskN x hx, maskN y hy, divN, mulN, addN, wrapN _ bd, wrapN _ bb', wrapN _ bt, maskN _ bt, wrapN _ bc', wrapN _ bw, wrapN _ ba', wrapN _ bh1, wrapN _ bh, wrapM (x * y)]
  rw [hhi]
theorem mul64_eval (x y : Int) (hx : 0 ≤ x) (hx1 : x < 18446744073709551616) (hy : 0 ≤ y) (hy1 : y < 18446744073709551616) : bits_Mul64.f x y = some (x * y / 18446744073709551616, x * y % 18446744073709551616) := by
  obtain ⟨a, rfl⟩ := Int.eq_ofNat_of_zero_le hx
  obtain ⟨b, rfl⟩ := Int.eq_ofNat_of_zero_le hy
  rw [mul64_nat a b (by omega) (by omega), Int.natCast_ediv, Int.natCast_emod, Int.natCast_mul]; rfl
theorem mul_stepB {B : Int} (hB : 0 < B) (x y o c : Int) (hx : 0 ≤ x) (hx1 : x < B) (hy : 0 ≤ y) (hy1 : y < B) (ho : 0 ≤ o) (ho1 : o < B) (hc : 0 ≤ c) (hc1 : c < B) :
    ((x * y % B + o) % B + c) % B = (x * y + o + c) % B ∧ (x * y / B + (x * y % B + o) / B) + ((x * y % B + o) % B + c) / B = (x * y + o + c) / B ∧ 0 ≤ x * y / B + (x * y % B + o) / B ∧
    x * y / B + (x * y % B + o) / B ≤ (x * y + o + c) / B ∧ (x * y + o + c) / B < B ∧ 0 ≤ (x * y + o + c) / B ∧ x * y / B + (x * y % B + o) / B < B := by
  have h1 : 0 ≤ x * y := Int.mul_nonneg hx hy
  have h2 : x * y ≤ (B - 1) * (B - 1) := Int.mul_le_mul (by omega) (by omega) hy (by omega)
  have h3 : (B - 1) * (B - 1) = B * B - 2 * B + 1 := by grind
  generalize x * y = p at *
  have e1 := Int.emod_add_mul_ediv p B
  have e2 := Int.emod_add_mul_ediv (p % B + o) B
  have e3 := Int.emod_add_mul_ediv ((p % B + o) % B + c) B
  have g1 := Int.emod_nonneg p (show B ≠ 0 by omega)
  have g2 := Int.emod_nonneg (p % B + o) (show B ≠ 0 by omega)
  have g3 := Int.emod_nonneg ((p % B + o) % B + c) (show B ≠ 0 by omega)
  have l3 := Int.emod_lt_of_pos ((p % B + o) % B + c) hB
  have q1 := ediv_nn (b := B) h1 (Int.le_of_lt hB)
  have q2 := ediv_nn (a := p % B + o) (b := B) (by omega) (Int.le_of_lt hB)
  have q3 := ediv_nn (a := (p % B + o) % B + c) (b := B) (by omega) (Int.le_of_lt hB)
  have e : p + o + c = ((p % B + o) % B + c) % B + B * ((p / B + (p % B + o) / B) + ((p % B + o) % B + c) / B) := by grind
  have d1 := div_of e g3 l3
  have d2 := mod_of e g3 l3
  have d3 : (p + o + c) / B < B := Int.ediv_lt_of_lt_mul hB (by omega)
  refine ⟨d2.symm, d1.symm, by omega, by omega, d3, by omega, by omega⟩
theorem mul_step (x y o c : Int) (hx : 0 ≤ x) (hx1 : x < 18446744073709551616) (hy : 0 ≤ y) (hy1 : y < 18446744073709551616) (ho : 0 ≤ o) (ho1 : o < 18446744073709551616) (hc : 0 ≤ c) (hc1 : c < 18446744073709551616) :
    ((x * y % 18446744073709551616 + o) % 18446744073709551616 + c) % 18446744073709551616 = (x * y + o + c) % 18446744073709551616 ∧ IntKind.u64.wrap (IntKind.u64.wrap (x * y / 18446744073709551616 + (x * y % 18446744073709551616 + o) / 18446744073709551616) + ((x * y % 18446744073709551616 + o) % 18446744073709551616 + c) / 18446744073709551616) = (x * y + o + c) / 18446744073709551616 ∧ 0 ≤ (x * y + o + c) / 18446744073709551616 ∧ (x * y + o + c) / 18446744073709551616 < 18446744073709551616 ∧ 0 ≤ x * y := by
  obtain ⟨m1, m2, m3, m4, m5, m6, m7⟩ := mul_stepB B0 x y o c hx hx1 hy hy1 ho ho1 hc hc1
  refine ⟨m1, ?_, m6, m5, Int.mul_nonneg hx hy⟩
  rw [wrap_id _ m3 m7, m2, wrap_id _ m6 m5]
theorem mul_alg (B p p2 s q c x y o V1 V2 V3 : Int) (h : V1 + p * p2 * c = V2 + p * (x * V3)) (e : s + B * q = x * y + o + c) :
    V1 + p * p2 * s + p * p2 * B * q = V2 + p * p2 * o + p * (x * (V3 + p2 * y)) := by grind
theorem mul_inner (a b : List Int) (hb : dg 18446744073709551616 b) (i : Nat) (x : Int) (hx : 0 ≤ x) (hx1 : x < 18446744073709551616) (old : List Int) (_hold : dg 18446744073709551616 old) (hol : old.length = a.length + b.length) (hi : i < a.length) (hal : a.length ≤ 1073741824) (hbl : b.length ≤ 1073741824) (r : List Int) :
    ∀ (d j : Nat) (out : List Int) (c : Int), j + d = b.length → out.length = old.length → dg 18446744073709551616 out → 0 ≤ c → c < 18446744073709551616 → (∀ t : Nat, i + j ≤ t → rd out (t : Int) = rd old (t : Int)) →
    vl 18446744073709551616 (out.take (i + j)) + 18446744073709551616 ^ (i + j) * c = vl 18446744073709551616 (old.take (i + j)) + 18446744073709551616 ^ i * (x * vl 18446744073709551616 (b.take j)) →
    (∀ o : List Int, o.length = old.length → dg 18446744073709551616 o → vl 18446744073709551616 (o.take (i + b.length + 1)) = vl 18446744073709551616 (old.take (i + b.length)) + 18446744073709551616 ^ i * (x * vl 18446744073709551616 b) → Evn (fun k => number_Mul.l0 k b o a a.length ((i : Int) + 1)) r) →
    Evn (fun k => number_Mul.l1 k b out i x c a a.length i b b.length j) r := by
  intro d
  induction d with
  | zero =>
    intro j out c hj ho hd hc hc1 _ hv H
    obtain rfl : j = b.length := by omega
    rw [List.take_length] at hv
    have := H (out.set (i + b.length) c) (by rw [List.length_set]; exact ho) (dg_set hd hc hc1) (by rw [vl_set_take _ _ _ (by omega), hv])
    refine Evn.succ (fun k => ?_) this
    rw [number_Mul.l1, if_neg (by omega), w64 _ (by omega) (by omega), if_pos (by omega), if_pos (by omega), w64 _ (by omega) (by omega), show (i : Int) + (b.length : Int) = ((i + b.length : Nat) : Int) by omega, Int.toNat_natCast]
  | succ d ih =>
    intro j out c hj ho hd hc hc1 hsame hv H
    have ry := rd_bd hb B0 j
    have ro := rd_bd hd B0 (i + j)
    obtain ⟨m1, m2, m3, m4, m5⟩ := mul_step x (rd b (j : Int)) (rd out ((i + j : Nat) : Int)) c hx hx1 ry.1 ry.2 ro.1 ro.2 hc hc1
    have hs0 : 0 ≤ (x * rd b (j : Int) + rd out ((i + j : Nat) : Int) + c) % 18446744073709551616 := by omega
    have hs1 : (x * rd b (j : Int) + rd out ((i + j : Nat) : Int) + c) % 18446744073709551616 < 18446744073709551616 := by omega
    have hsm := hsame (i + j) (Nat.le_refl _)
    refine Evn.succ (fun k => ?_) (ih (j + 1) (out.set (i + j) ((x * rd b (j : Int) + rd out ((i + j : Nat) : Int) + c) % 18446744073709551616)) ((x * rd b (j : Int) + rd out ((i + j : Nat) : Int) + c) / 18446744073709551616) (by omega) (by rw [List.length_set]; exact ho) (dg_set hd hs0 hs1) m3 m4 (fun t ht => by rw [rd_set _ _ _ _ (by omega), if_neg (by omega)]; exact hsame t (by omega)) (by
      have e := Int.emod_add_mul_ediv (x * rd b (j : Int) + rd out ((i + j : Nat) : Int) + c) 18446744073709551616
      have hv2 := hv
      rw [Int.pow_add] at hv2
      have key := mul_alg 18446744073709551616 (18446744073709551616 ^ i) (18446744073709551616 ^ j) _ _ c x (rd b (j : Int)) (rd out ((i + j : Nat) : Int)) _ _ _ hv2 e
      rw [show i + (j + 1) = i + j + 1 by omega, vl_set_take _ _ _ (by omega), vl_take_succ old, vl_take_succ b, ← hsm, Int.pow_succ, Int.pow_add]
      exact key) H)
    rw [number_Mul.l1, if_pos (by omega), if_pos (by omega), if_pos (by omega), mul64_eval x _ hx hx1 ry.1 ry.2, bsome]
    have hz0 : 0 ≤ x * rd b (j : Int) % 18446744073709551616 := Int.emod_nonneg _ (by omega)
    generalize x * rd b (j : Int) / 18446744073709551616 = z1 at *
    generalize x * rd b (j : Int) % 18446744073709551616 = z2 at *
    simp only []
    rw [w64 ((i : Int) + (j : Int)) (by omega) (by omega), if_pos (by omega), if_pos (by omega), show (i : Int) + (j : Int) = ((i + j : Nat) : Int) by omega]
    rw [add64_eval _ _ 0 hz0 ro.1 (by omega) (by omega), bsome]
    simp only [Int.add_zero]
    rw [add64_eval _ _ 0 (Int.emod_nonneg _ (by omega)) hc (by omega) (by omega), bsome]
    simp only [Int.add_zero]
    rw [m1, m2, Int.toNat_natCast, w64 _ (by omega) (by omega), show (j : Int) + 1 = ((j + 1 : Nat) : Int) by omega]
theorem mul_loop (a b : List Int) (ha : dg 18446744073709551616 a) (hb : dg 18446744073709551616 b) (hal : a.length ≤ 1073741824) (hbl : b.length ≤ 1073741824) : ∀ (d i : Nat) (out : List Int), i + d = a.length → out.length = a.length + b.length → dg 18446744073709551616 out →
    vl 18446744073709551616 (out.take (i + b.length)) = vl 18446744073709551616 (a.take i) * vl 18446744073709551616 b → Evn (fun k => number_Mul.l0 k b out a a.length i) (dgs 18446744073709551616 (vl 18446744073709551616 a * vl 18446744073709551616 b)) := by
  intro d
  induction d with
  | zero =>
    intro i out hi ho hd hv
    obtain rfl : i = a.length := by omega
    rw [← ho, List.take_length, List.take_length] at hv
    refine Evn.succ (h := fun _ => some (cutL out)) (fun k => by rw [number_Mul.l0, if_neg (by omega)]; rfl) (Evn.of fun _ => ?_)
    rw [cut_eq B2 hd hv]
  | succ d ih =>
    intro i out hi ho hd hv
    have hx := rd_bd ha B0 i
    have k1 := mul_inner a b hb i (rd a (i : Int)) hx.1 hx.2 out hd ho (by omega) hal hbl (dgs 18446744073709551616 (vl 18446744073709551616 a * vl 18446744073709551616 b)) b.length 0 out 0 (by omega) rfl hd (by omega) (by omega) (fun _ _ => rfl) (by simp [vl]) (fun o h1 h2 h3 => by
      refine Evn.congr (fun k => by rw [show (i : Int) + 1 = ((i + 1 : Nat) : Int) by omega]) (ih (i + 1) o (by omega) (by omega) h2 ?_)
      rw [show i + 1 + b.length = i + b.length + 1 by omega, h3, hv, vl_take_succ, Int.add_mul, Int.mul_assoc])
    refine Evn.succ (fun k => ?_) k1
    rw [number_Mul.l0, if_pos (by omega), if_pos (by omega), if_pos (by omega)]
    rfl
theorem mul_ev (a b : List Int) (ha : dg 18446744073709551616 a) (hb : dg 18446744073709551616 b) (hal : a.length ≤ 1073741824) (hbl : b.length ≤ 1073741824) : Evn (fun k => number_Mul.f k a b) (dgs 18446744073709551616 (vl 18446744073709551616 a * vl 18446744073709551616 b)) := by
  refine Evn.congr (fun k => ?_) (mul_loop a b ha hb hal hbl a.length 0 (List.replicate (a.length + b.length) 0) (by omega) (by simp) (dg_replicate B0 _) (by rw [List.take_replicate, vl_zeros]; simp [vl]))
  unfold number_Mul.f
  rw [w64 _ (by omega) (by omega), if_pos (by omega), if_pos (by omega), show (a.length : Int) + (b.length : Int) = ((a.length + b.length : Nat) : Int) by omega, Int.toNat_natCast]
  rfl
end Go.Proofs.Ytdaehflffecllaa.A
namespace Go.Proofs.Ytdaehflffecllaa.A
open Go.RowKit Go.Proofs.YtdaehflffecllaaW.PrintWords Go.Proofs.Ytdaehflffecllaa.N Go.Proofs.Ytdaehflffecllaa.T
theorem beq_loop (l m : List Int) (hl : l.length ≤ 4611686018427387904) (hlm : l.length = m.length) : ∀ (d i : Nat), i + d = l.length → l.take i = m.take i → Evn (fun k => chicorylaw01_Bytes.l0 k l m i) (decide (l = m)) := by
  intro d
  induction d with
  | zero =>
    intro i hi h
    rw [List.take_of_length_le (by omega), List.take_of_length_le (by omega)] at h
    refine Evn.succ (h := fun _ => some true) (fun k => by rw [chicorylaw01_Bytes.l0, if_neg (by omega)]) (Evn.of fun _ => ?_)
    rw [decide_eq_true h]
  | succ d ih =>
    intro i hi h
    by_cases he : rd l (i : Int) = rd m (i : Int)
    · refine Evn.succ (fun k => ?_) (ih (i + 1) (by omega) (by rw [take_rd l i (by omega), take_rd m i (by omega), h, he]))
      rw [chicorylaw01_Bytes.l0, if_pos (by omega), if_pos (by omega), if_pos (by omega), if_pos he, w64 _ (by omega) (by omega)]; rfl
    · refine Evn.succ (h := fun _ => some false) (fun k => by rw [chicorylaw01_Bytes.l0, if_pos (by omega), if_pos (by omega), if_pos (by omega), if_neg he]) (Evn.of fun _ => ?_)
      rw [decide_eq_false (fun e => he (by rw [e]))]
theorem beq_ev (l m : List Int) (hl : l.length ≤ 4611686018427387904) : Evn (fun k => chicorylaw01_Bytes.f k l m) (decide (l = m)) := by
  by_cases h : l.length = m.length
  · refine Evn.congr (fun k => ?_) (beq_loop l m hl h l.length 0 (by omega) rfl)
    unfold chicorylaw01_Bytes.f
    rw [if_pos (by omega)]; rfl
  · refine Evn.of fun k => ?_
    unfold chicorylaw01_Bytes.f
    rw [if_neg (by omega), decide_eq_false (fun e => h (by rw [e]))]
end Go.Proofs.Ytdaehflffecllaa.A
namespace Go.Proofs.Ytdaehflffecllaa.A
open Go.RowKit Go.Proofs.YtdaehflffecllaaW.PrintWords Go.Proofs.Ytdaehflffecllaa.N Go.Proofs.Ytdaehflffecllaa.T
/-- A number whose bits go up, or down. -/
def shv (n b : Int) : Int := if 0 ≤ b then n * 2 ^ b.toNat else n / 2 ^ (-b).toNat
/-- A word; 0: there is none. -/
def atz (l : List Int) (z : Int) : Int := if z < 0 then 0 else rd l z
theorem at_z (l : List Int) (z : Int) : number_Nat_at.f l z = some (atz l z) := by
  unfold atz
  by_cases h : z < 0
  · rw [at_neg l z h, if_pos h]
  · obtain ⟨i, rfl⟩ := Int.eq_ofNat_of_zero_le (show 0 ≤ z by omega)
    rw [at_nn, if_neg h]
theorem mod_succ (R B p : Int) (hp : 0 < p) : R % (p * B) = R % p + p * (R / p % B) := by
  have e1 := Int.emod_add_mul_ediv R (p * B)
  have e2 := Int.emod_add_mul_ediv R p
  have e3 := Int.emod_add_mul_ediv (R / p) B
  rw [← Int.ediv_ediv_of_nonneg (Int.le_of_lt hp)] at e1
  grind
theorem bw2 : (18446744073709551616 : Int) = 2 ^ 64 := rfl
/-- A digit of a number whose bits went up less than a word. -/
theorem digit_up (l : List Int) (h : dg 18446744073709551616 l) (up : Nat) (hu : up < 64) (j : Nat) :
    vl 18446744073709551616 l * 2 ^ up / 18446744073709551616 ^ j % 18446744073709551616 = rd l (j : Int) * 2 ^ up % 18446744073709551616 + (if j = 0 then 0 else rd l ((j - 1 : Nat) : Int) / 2 ^ (64 - up)) := by
  have hp := pow_pos B0 j
  have hu2 := two_pos up
  have hs := vl_split (B := 18446744073709551616) l j
  have ht := vl_take_bd h B0 j
  have hd := vl_drop (B := 18446744073709551616) l j
  have hr := rd_bd h B0 j
  -- what goes beyond the lower digits
  have key : ∃ e : Int, 0 ≤ e ∧ e < 2 ^ up ∧ vl 18446744073709551616 (l.take j) * 2 ^ up / 18446744073709551616 ^ j = e ∧ e = (if j = 0 then 0 else rd l ((j - 1 : Nat) : Int) / 2 ^ (64 - up)) := by
    by_cases hj : j = 0
    · subst hj
      refine ⟨0, by omega, hu2, by simp [vl], by rw [if_pos rfl]⟩
    · obtain ⟨i, rfl⟩ : ∃ i, j = i + 1 := ⟨j - 1, by omega⟩
      have hri := rd_bd h B0 i
      have hv2 := two_pos (64 - up)
      have hsp : (18446744073709551616 : Int) = 2 ^ up * 2 ^ (64 - up) := by rw [bw2, ← Int.pow_add]; congr 1; omega
      have hpi := pow_pos B0 i
      have hti := vl_take_bd h B0 i
      refine ⟨rd l (i : Int) / 2 ^ (64 - up), ediv_nn hri.1 (Int.le_of_lt hv2), ?_, ?_, by rw [if_neg (by omega)]; rfl⟩
      · exact Int.ediv_lt_of_lt_mul hv2 (by rw [← hsp]; exact hri.2)
      · have e1 : (18446744073709551616 : Int) ^ (i + 1) = 18446744073709551616 ^ i * 2 ^ (64 - up) * 2 ^ up := by rw [Int.pow_succ, Int.mul_assoc, Int.mul_comm (2 ^ (64 - up)), ← hsp]
        rw [e1, Int.mul_ediv_mul_of_pos_left _ _ hu2, ← Int.ediv_ediv_of_nonneg (Int.le_of_lt hpi), vl_take_succ]
        rw [div_of (r := vl 18446744073709551616 (l.take i)) rfl hti.1 hti.2]
  obtain ⟨e, he0, he1, he2, he3⟩ := key
  rw [← he3]
  have e4 : vl 18446744073709551616 l * 2 ^ up / 18446744073709551616 ^ j = e + vl 18446744073709551616 (l.drop j) * 2 ^ up := by
    rw [hs, Int.add_mul, Int.mul_assoc, Int.add_mul_ediv_left _ _ (by omega), he2]
  rw [e4, hd]
  -- the lower part is a multiple of 2^up
  have hsp : (18446744073709551616 : Int) = 2 ^ up * 2 ^ (64 - up) := by rw [bw2, ← Int.pow_add]; congr 1; omega
  have m1 : rd l (j : Int) * 2 ^ up % 18446744073709551616 = 2 ^ up * (rd l (j : Int) % 2 ^ (64 - up)) := by
    rw [Int.mul_comm (rd l (j : Int))]; conv => lhs; rw [hsp]
    rw [Int.mul_emod_mul_of_pos _ _ hu2]
  have m2 := Int.emod_add_mul_ediv (rd l (j : Int) * 2 ^ up) 18446744073709551616
  have m3 := Int.emod_lt_of_pos (rd l (j : Int)) (two_pos (64 - up))
  have m4 := Int.emod_nonneg (rd l (j : Int)) (show (2 : Int) ^ (64 - up) ≠ 0 by have := two_pos (64 - up); omega)
  have m5 : 2 ^ up * (rd l (j : Int) % 2 ^ (64 - up) + 1) ≤ 2 ^ up * 2 ^ (64 - up) := Int.mul_le_mul_of_nonneg_left (by omega) (Int.le_of_lt hu2)
  rw [← hsp, Int.mul_add] at m5
  have m6 := Int.mul_nonneg (Int.le_of_lt hu2) m4
  rw [← m1] at m5 m6
  refine mod_of (q := rd l (j : Int) * 2 ^ up / 18446744073709551616 + vl 18446744073709551616 (l.drop (j + 1)) * 2 ^ up) ?_ (by omega) (by omega)
  grind
/-- The digit as the code makes it. -/
theorem digit_or (l : List Int) (h : dg 18446744073709551616 l) (up : Nat) (hu : up < 64) (z : Int) :
    Go.bits .or .u64 (shl .u64 (atz l z) (up : Int)) (shr .u64 (atz l (z - 1)) ((64 - up : Nat) : Int)) = (if z < 0 then 0 else vl 18446744073709551616 l * 2 ^ up / 18446744073709551616 ^ z.toNat % 18446744073709551616) := by
  rw [shl_eq _ _ (by omega), shr_eq _ _ (by omega)]
  have hu2 := two_pos up
  have hv2 := two_pos (64 - up)
  by_cases hz : z < 0
  · rw [if_pos hz]
    unfold atz
    rw [if_pos hz, if_pos (by omega)]
    simp
    decide
  · rw [if_neg hz]
    obtain ⟨j, rfl⟩ := Int.eq_ofNat_of_zero_le (show 0 ≤ z by omega)
    rw [Int.toNat_natCast, digit_up l h up hu j]
    have hr := rd_bd h B0 j
    have hsp : (18446744073709551616 : Int) = 2 ^ up * 2 ^ (64 - up) := by rw [bw2, ← Int.pow_add]; congr 1; omega
    have e1 : atz l (j : Int) = rd l (j : Int) := by unfold atz; rw [if_neg hz]
    have e2 : atz l ((j : Int) - 1) / 2 ^ (64 - up) = (if j = 0 then 0 else rd l ((j - 1 : Nat) : Int) / 2 ^ (64 - up)) := by
      unfold atz
      by_cases h0 : j = 0
      · subst h0; rw [if_pos (by omega), if_pos rfl]; simp
      · rw [if_neg (by omega), if_neg h0, show (j : Int) - 1 = ((j - 1 : Nat) : Int) by omega]
    have e3 : 0 ≤ (if j = 0 then 0 else rd l ((j - 1 : Nat) : Int) / 2 ^ (64 - up)) ∧ (if j = 0 then 0 else rd l ((j - 1 : Nat) : Int) / 2 ^ (64 - up)) < 2 ^ up := by
      by_cases h0 : j = 0
      · rw [if_pos h0]; omega
      · have hri := rd_bd h B0 (j - 1)
        rw [if_neg h0]
        exact ⟨ediv_nn hri.1 (Int.le_of_lt hv2), Int.ediv_lt_of_lt_mul hv2 (by rw [← hsp]; exact hri.2)⟩
    have hub : (2 : Int) ^ up ≤ 18446744073709551616 := by rw [bw2]; exact pow_le (by omega) (by omega)
    rw [e1, e2]
    refine or_add _ _ up (Int.emod_nonneg _ (by omega)) (Int.emod_lt_of_pos _ B0) e3.1 e3.2 (by omega) ?_
    have m1 : rd l (j : Int) * 2 ^ up % 18446744073709551616 = 2 ^ up * (rd l (j : Int) % 2 ^ (64 - up)) := by
      rw [Int.mul_comm (rd l (j : Int))]; conv => lhs; rw [hsp]
      rw [Int.mul_emod_mul_of_pos _ _ hu2]
    rw [m1, Int.mul_emod_right]
/-- A digit of the whole, by the place less the words. -/
theorem shv_digit (n w : Int) (up : Nat) (hu : up < 64) (i : Nat) :
    shv n (64 * w + up) / 18446744073709551616 ^ i % 18446744073709551616 = (if (i : Int) - w < 0 then 0 else n * 2 ^ up / 18446744073709551616 ^ ((i : Int) - w).toNat % 18446744073709551616) := by
  unfold shv
  have hi := pow_pos B0 i
  by_cases hw : 0 ≤ w
  · obtain ⟨t, rfl⟩ := Int.eq_ofNat_of_zero_le hw
    rw [if_pos (by omega), show (64 * (t : Int) + (up : Int)).toNat = up + 64 * t by omega, Int.pow_add, ← Int.mul_assoc, Int.pow_mul, ← bw2]
    by_cases hlt : (i : Int) - (t : Int) < 0
    · rw [if_pos hlt]
      obtain ⟨d, rfl⟩ : ∃ d, t = i + (d + 1) := ⟨t - i - 1, by omega⟩
      rw [Int.pow_add, ← Int.mul_assoc, Int.mul_right_comm _ _ (18446744073709551616 ^ (d + 1)), Int.mul_ediv_cancel _ (by omega), Int.pow_succ, ← Int.mul_assoc, Int.mul_emod_left]
    · rw [if_neg hlt]
      obtain ⟨d, rfl⟩ : ∃ d, i = d + t := ⟨i - t, by omega⟩
      rw [show (((d + t : Nat) : Int) - (t : Int)).toNat = d by omega, Int.pow_add, Int.mul_ediv_mul_of_pos_left _ _ (pow_pos B0 t)]
  · obtain ⟨t, ht⟩ : ∃ t : Nat, w = -((t : Int) + 1) := ⟨(-w - 1).toNat, by omega⟩
    have hneg : ¬ 0 ≤ 64 * w + (up : Int) := by omega
    rw [if_neg hneg, if_neg (by omega), show ((i : Int) - w).toNat = i + (t + 1) by omega]
    have e0 : (18446744073709551616 : Int) ^ (t + 1) = 2 ^ (-(64 * w + (up : Int))).toNat * 2 ^ up := by
      rw [bw2, ← Int.pow_mul, ← Int.pow_add]; congr 1; omega
    have e1 : (18446744073709551616 : Int) ^ (i + (t + 1)) = 2 ^ (-(64 * w + (up : Int))).toNat * 2 ^ up * 18446744073709551616 ^ i := by
      rw [Int.pow_add, Int.mul_comm, e0]
    rw [e1, ← Int.ediv_ediv_of_nonneg (Int.le_of_lt (Int.mul_pos (two_pos _) (two_pos up))), Int.mul_ediv_mul_of_pos_left _ _ (two_pos up)]
theorem shv_nonneg {n : Int} (h : 0 ≤ n) (b : Int) : 0 ≤ shv n b := by
  unfold shv; split
  · exact Int.mul_nonneg h (Int.le_of_lt (two_pos _))
  · exact ediv_nn h (Int.le_of_lt (two_pos _))
theorem shv_lt {n w : Int} (la up : Nat) (hu : up < 64) (_hn : 0 ≤ n) (h : n < 18446744073709551616 ^ la) (m : Nat) (hm : (la : Int) + w + 1 ≤ m) : shv n (64 * w + up) < 18446744073709551616 ^ m := by
  have hu2 := two_pos up
  have hub : (2 : Int) ^ up ≤ 18446744073709551616 := by rw [bw2]; exact pow_le (by omega) (by omega)
  have hV : n * 2 ^ up < 18446744073709551616 ^ (la + 1) := by
    have a1 : n * 2 ^ up < 18446744073709551616 ^ la * 2 ^ up := Int.mul_lt_mul_of_pos_right h hu2
    have a2 : (18446744073709551616 : Int) ^ la * 2 ^ up ≤ 18446744073709551616 ^ la * 18446744073709551616 := Int.mul_le_mul_of_nonneg_left hub (Int.le_of_lt (pow_pos B0 la))
    rw [Int.pow_succ]; omega
  unfold shv
  by_cases hw : 0 ≤ w
  · obtain ⟨t, rfl⟩ := Int.eq_ofNat_of_zero_le hw
    rw [if_pos (by omega), show (64 * (t : Int) + (up : Int)).toNat = up + 64 * t by omega, Int.pow_add, ← Int.mul_assoc, Int.pow_mul, ← bw2]
    have a1 := Int.mul_lt_mul_of_pos_right hV (pow_pos B0 t)
    rw [← Int.pow_add] at a1
    have := pow_le B0 (show la + 1 + t ≤ m by omega)
    omega
  · obtain ⟨t, ht⟩ : ∃ t : Nat, w = -((t : Int) + 1) := ⟨(-w - 1).toNat, by omega⟩
    have hneg : ¬ 0 ≤ 64 * w + (up : Int) := by omega
    rw [if_neg hneg]
    have e1 : (18446744073709551616 : Int) ^ (t + 1) = 2 ^ (-(64 * w + (up : Int))).toNat * 2 ^ up := by
      rw [bw2, ← Int.pow_mul, ← Int.pow_add]; congr 1; omega
    have e2 : n / 2 ^ (-(64 * w + (up : Int))).toNat = n * 2 ^ up / 18446744073709551616 ^ (t + 1) := by rw [e1, Int.mul_ediv_mul_of_pos_left _ _ hu2]
    rw [e2]
    refine Int.ediv_lt_of_lt_mul (pow_pos B0 _) ?_
    rw [← Int.pow_add]
    have := pow_le B0 (show la + 1 ≤ m + (t + 1) by omega)
    omega
theorem shift_loop (l : List Int) (h : dg 18446744073709551616 l) (hl : l.length ≤ 1073741824) (w : Int) (hw0 : -4294967296 ≤ w) (hw1 : w ≤ 4294967296) (up : Nat) (hu : up < 64) (n : Nat) (hn : n ≤ 17179869184) (hnl : (l.length : Int) + w + 1 ≤ n) : ∀ (d i : Nat) (out : List Int), i + d = n → out.length = n → dg 18446744073709551616 (out.take i) →
    vl 18446744073709551616 (out.take i) = shv (vl 18446744073709551616 l) (64 * w + up) % 18446744073709551616 ^ i → Evn (fun k => number_Shift.l0 k l w up out n i) (dgs 18446744073709551616 (shv (vl 18446744073709551616 l) (64 * w + up)), 0) := by
  have hv := vl_nonneg h B0
  intro d
  induction d with
  | zero =>
    intro i out hi ho hd hvv
    obtain rfl : i = n := by omega
    have ht : out.take i = out := by rw [← ho]; exact List.take_length
    rw [ht] at hd hvv
    rw [Int.emod_eq_of_lt (shv_nonneg hv _) (shv_lt l.length up hu hv (vl_lt h B0) i hnl)] at hvv
    refine Evn.succ (h := fun _ => some (cutL out, 0)) (fun k => by rw [number_Shift.l0, if_neg (by omega)]; rfl) (Evn.of fun _ => ?_)
    rw [cut_eq B2 hd hvv]
  | succ d ih =>
    intro i out hi ho hd hvv
    have hdig := digit_or l h up hu ((i : Int) - w)
    have hsd := shv_digit (vl 18446744073709551616 l) w up hu i
    rw [← hsd] at hdig
    have hm0 := Int.emod_nonneg (shv (vl 18446744073709551616 l) (64 * w + up) / 18446744073709551616 ^ i) (show (18446744073709551616 : Int) ≠ 0 by omega)
    have hm1 := Int.emod_lt_of_pos (shv (vl 18446744073709551616 l) (64 * w + up) / 18446744073709551616 ^ i) B0
    refine Evn.succ (fun k => ?_) (ih (i + 1) (out.set i (shv (vl 18446744073709551616 l) (64 * w + up) / 18446744073709551616 ^ i % 18446744073709551616)) (by omega) (by rw [List.length_set]; exact ho) (dg_set_take hd (by omega) hm0 hm1) (by
      rw [vl_set_take _ _ _ (by omega), hvv, Int.pow_succ, mod_succ _ _ _ (pow_pos B0 i)]))
    rw [number_Shift.l0, if_pos (by omega), w64 ((i : Int) - w) (by omega) (by omega), at_z, bsome, if_pos (by omega), w64 ((i : Int) - w - 1) (by omega) (by omega), at_z, bsome, w64 (64 - (up : Int)) (by omega) (by omega), if_pos (by omega), if_pos (by omega), if_pos (by omega), show (64 : Int) - (up : Int) = ((64 - up : Nat) : Int) by omega, hdig, Int.toNat_natCast, w64 _ (by omega) (by omega)]
    rfl
/-- What Shift answers. -/
def shiftR (n b : Int) : List Int × Int := if b < -65536 ∨ 65536 < b then ([], 10) else (dgs 18446744073709551616 (shv n b), 0)
theorem shift_j1 (l : List Int) (h : dg 18446744073709551616 l) (hl : l.length ≤ 1073741824) (w : Int) (hw0 : -4294967296 ≤ w) (hw1 : w ≤ 4294967296) (up : Nat) (hu : up < 64) : Evn (fun k => number_Shift.j1 k l w (up : Int)) (dgs 18446744073709551616 (shv (vl 18446744073709551616 l) (64 * w + up)), 0) := by
  have e1 : mx 0 (wrap64 (wrap64 ((l.length : Int) + w) + 1)) = (((l.length : Int) + w + 1).toNat : Int) := by
    rw [w64 ((l.length : Int) + w) (by omega) (by omega), w64 _ (by omega) (by omega)]; unfold mx; split <;> omega
  refine Evn.succ (fun k => ?_) (shift_loop l h hl w hw0 hw1 up hu ((l.length : Int) + w + 1).toNat (by omega) (by omega) ((l.length : Int) + w + 1).toNat 0 (List.replicate ((l.length : Int) + w + 1).toNat 0) (by omega) (by simp) (by simp; exact dg_nil) (by simp [vl]))
  rw [number_Shift.j1, e1, if_pos (by omega), if_pos (by omega), bsome, Int.toNat_natCast, List.length_replicate]
  rfl
theorem shift_ev (l : List Int) (h : dg 18446744073709551616 l) (hl : l.length ≤ 1073741824) (b : Int) : Evn (fun k => number_Shift.f k l b) (shiftR (vl 18446744073709551616 l) b) := by
  have hout : Evn (fun k => number_Shift.j0 k l b true) (([] : List Int), (10 : Int)) := Evn.succ (h := fun _ => some ([], 10)) (fun k => by rw [number_Shift.j0, if_pos rfl]) (Evn.of fun _ => rfl)
  unfold shiftR
  by_cases hlo : b < -65536
  · rw [if_pos (.inl hlo)]
    exact Evn.congr (fun k => by unfold number_Shift.f; rw [if_pos hlo]) hout
  · by_cases hhi : b > 65536
    · rw [if_pos (.inr hhi)]
      exact Evn.congr (fun k => by unfold number_Shift.f; rw [if_neg hlo, decide_eq_true hhi]) hout
    · rw [if_neg (by omega)]
      have hj := shift_j1 l h hl (b / 64) (by omega) (by omega) (b % 64).toNat (by omega)
      rw [show 64 * (b / 64) + ((b % 64).toNat : Int) = b by omega] at hj
      refine Evn.congr (fun k => by unfold number_Shift.f; rw [if_neg hlo, decide_eq_false hhi]) (Evn.succ (fun k => ?_) hj)
      rw [number_Shift.j0, if_neg (by decide)]
      by_cases hb : 0 ≤ b
      · obtain ⟨c, rfl⟩ := Int.eq_ofNat_of_zero_le hb
        have t1 := tdiv_nat c 64
        have t2 := tmod_nat c 64
        rw [show ((64 : Nat) : Int) = 64 from rfl] at t1 t2
        rw [t1, t2, if_neg (by omega), w64 _ (by omega) (by omega)]
        congr 1 <;> omega
      · obtain ⟨c, hc⟩ : ∃ c : Nat, b = -(c : Int) := ⟨(-b).toNat, by omega⟩
        have t1 : Int.tdiv b 64 = -((c / 64 : Nat) : Int) := by rw [hc, Int.neg_tdiv]; have := tdiv_nat c 64; rw [show ((64 : Nat) : Int) = 64 from rfl] at this; rw [this]
        have t2 : Int.tmod b 64 = -((c % 64 : Nat) : Int) := by rw [hc, Int.neg_tmod]; have := tmod_nat c 64; rw [show ((64 : Nat) : Int) = 64 from rfl] at this; rw [this]
        by_cases hz : c % 64 = 0
        · rw [t1, t2, if_neg (by omega), w64 _ (by omega) (by omega)]
          congr 1 <;> omega
        · rw [t1, t2, if_pos (by omega), w64 (-((c / 64 : Nat) : Int)) (by omega) (by omega), w64 _ (by omega) (by omega), w64 _ (by omega) (by omega)]
          congr 1 <;> omega
end Go.Proofs.Ytdaehflffecllaa.A
namespace Go.Proofs.Ytdaehflffecllaa.A
open Go.RowKit Go.Proofs.YtdaehflffecllaaW.PrintWords Go.Proofs.Ytdaehflffecllaa.N Go.Proofs.Ytdaehflffecllaa.T
theorem of_loop (l : List Int) (h : dg 256 l) (hl : l.length ≤ 1073741824) : ∀ (d i : Nat) (out : List Int), i + d = l.length → 8 * out.length < l.length + 8 → l.length ≤ 8 * out.length → dg 18446744073709551616 out → vl 18446744073709551616 out = vl 256 (l.take i) →
    Evn (fun k => number_Of.l0 k out l l.length i) (dgs 18446744073709551616 (vl 256 l)) := by
  intro d
  induction d with
  | zero =>
    intro i out hi _ _ hd hv
    obtain rfl : i = l.length := by omega
    rw [List.take_length] at hv
    refine Evn.succ (h := fun _ => some (cutL out)) (fun k => by rw [number_Of.l0, if_neg (by omega)]; rfl) (Evn.of fun _ => ?_)
    rw [cut_eq B2 hd hv]
  | succ d ih =>
    intro i out hi ho1 ho2 hd hv
    have hr := rd_bd h C0 i
    have ht := vl_take_bd h C0 i
    have hw : i / 8 < out.length := by omega
    have hro := rd_bd hd B0 (i / 8)
    have t1 := tdiv_nat i 8
    have t2 := tmod_nat i 8
    rw [show ((8 : Nat) : Int) = 8 from rfl] at t1 t2
    have hs8 : (256 : Int) ^ (i % 8) = 2 ^ (8 * (i % 8)) := by rw [Int.pow_mul]; rfl
    have hpw : (256 : Int) ^ i = 18446744073709551616 ^ (i / 8) * 2 ^ (8 * (i % 8)) := by
      rw [← hs8, show (18446744073709551616 : Int) = 256 ^ 8 from rfl, ← Int.pow_mul, ← Int.pow_add]; congr 1; omega
    have hp8 := pow_pos B0 (i / 8)
    have hp2 := two_pos (8 * (i % 8))
    have hrb : rd out ((i / 8 : Nat) : Int) < 2 ^ (8 * (i % 8)) := by
      rw [rd_vl hd B0, hv]
      have h1 : vl 256 (l.take i) / 18446744073709551616 ^ (i / 8) < 2 ^ (8 * (i % 8)) := Int.ediv_lt_of_lt_mul hp8 (by rw [Int.mul_comm, ← hpw]; exact ht.2)
      have h2 := ediv_nn (b := 18446744073709551616 ^ (i / 8)) ht.1 (Int.le_of_lt hp8)
      have h3 := Int.emod_add_mul_ediv (vl 256 (l.take i) / 18446744073709551616 ^ (i / 8)) 18446744073709551616
      have h4 := ediv_nn (b := 18446744073709551616) h2 (by omega)
      omega
    have h56 : (2 : Int) ^ (8 * (i % 8)) ≤ 2 ^ 56 := pow_le (by omega) (by omega)
    rw [show (2 : Int) ^ 56 = 72057594037927936 from rfl] at h56
    have hy0 : 0 ≤ rd l (i : Int) * 2 ^ (8 * (i % 8)) := Int.mul_nonneg hr.1 (Int.le_of_lt hp2)
    have hy1 : rd l (i : Int) * 2 ^ (8 * (i % 8)) ≤ 255 * 2 ^ (8 * (i % 8)) := Int.mul_le_mul_of_nonneg_right (by omega) (Int.le_of_lt hp2)
    have hsh : shl .u64 (IntKind.u64.wrap (rd l (i : Int))) ((8 * (i % 8) : Nat) : Int) = rd l (i : Int) * 2 ^ (8 * (i % 8)) := by
      rw [shl_eq _ _ (by omega), wrap_id _ hr.1 (by omega), Int.emod_eq_of_lt hy0 (by omega)]
    have hor : Go.bits .or .u64 (rd out ((i / 8 : Nat) : Int)) (rd l (i : Int) * 2 ^ (8 * (i % 8))) = rd out ((i / 8 : Nat) : Int) + rd l (i : Int) * 2 ^ (8 * (i % 8)) := by
      rw [or_comm' _ _ hro.1 hro.2 hy0 (by omega), or_add _ _ (8 * (i % 8)) hy0 (by omega) hro.1 hrb (by omega) (Int.mul_emod_left _ _), Int.add_comm]
    refine Evn.succ (fun k => ?_) (ih (i + 1) (out.set (i / 8) (rd out ((i / 8 : Nat) : Int) + rd l (i : Int) * 2 ^ (8 * (i % 8)))) (by omega) (by rw [List.length_set]; omega) (by rw [List.length_set]; omega) (dg_set hd (by omega) (by omega)) (by
      rw [vl_set _ _ _ hw, hv, vl_take_succ, hpw]; grind))
    rw [number_Of.l0, if_pos (by omega), if_pos (by omega), if_pos (by omega), t1, t2, w64 ((i / 8 : Nat) : Int) (by omega) (by omega), if_pos (by omega), if_pos (by omega), w64 (8 * ((i % 8 : Nat) : Int)) (by omega) (by omega), if_pos (by omega), Int.toNat_natCast, show 8 * ((i % 8 : Nat) : Int) = ((8 * (i % 8) : Nat) : Int) by omega, hsh, hor, w64 _ (by omega) (by omega)]
    rfl
theorem of_ev (l : List Int) (h : dg 256 l) (hl : l.length ≤ 1073741824) : Evn (fun k => number_Of.f k l) (dgs 18446744073709551616 (vl 256 l)) := by
  refine Evn.congr (fun k => ?_) (of_loop l h hl l.length 0 (List.replicate ((l.length + 7) / 8) 0) (by omega) (by simp; omega) (by simp; omega) (dg_replicate B0 _) (by rw [vl_zeros]; simp [vl]))
  have t1 := tdiv_nat (l.length + 7) 8
  rw [show ((8 : Nat) : Int) = 8 from rfl] at t1
  unfold number_Of.f
  rw [w64 ((l.length : Int) + 8) (by omega) (by omega), show (l.length : Int) + 8 - 1 = ((l.length + 7 : Nat) : Int) by omega, w64 ((l.length + 7 : Nat) : Int) (by omega) (by omega), t1, w64 _ (by omega) (by omega), if_pos (by omega), if_pos (by omega), Int.toNat_natCast]
  rfl
end Go.Proofs.Ytdaehflffecllaa.A
namespace Go.Proofs.Ytdaehflffecllaa.A
open Go.RowKit Go.Proofs.YtdaehflffecllaaW.PrintWords Go.Proofs.Ytdaehflffecllaa.N Go.Proofs.Ytdaehflffecllaa.T
/-- Digits of one length, and one value, are the same. -/
theorem dg_inj {B : Int} (_hB : 0 < B) : ∀ (l m : List Int), dg B l → dg B m → l.length = m.length → vl B l = vl B m → l = m := by
  intro l
  induction l with
  | nil => intro m _ _ h _; exact (List.eq_nil_of_length_eq_zero h.symm).symm
  | cons x xs ih =>
    intro m hl hm h e
    cases m with
    | nil => simp at h
    | cons y ys =>
      have h1 := dg_cons hl
      have h2 := dg_cons hm
      have e1 : vl B (x :: xs) = x + B * vl B xs := rfl
      have e2 : vl B (y :: ys) = y + B * vl B ys := rfl
      have a1 := mod_of e1 h1.1.1 h1.1.2
      have a2 := mod_of e2 h2.1.1 h2.1.2
      have b1 := div_of e1 h1.1.1 h1.1.2
      have b2 := div_of e2 h2.1.1 h2.1.2
      rw [e] at a1 b1
      rw [show x = y by omega, ih ys h1.2 h2.2 (by simpa using h) (by omega)]
theorem nbytes_loop (l : List Int) (h : dg 18446744073709551616 l) (n : Nat) (hn : n ≤ 65536) : ∀ (d i : Nat) (out : List Int), i + d = n → out.length = n → dg 256 (out.take i) → vl 256 (out.take i) = vl 18446744073709551616 l % 256 ^ i →
    ∃ o : List Int, o.length = n ∧ dg 256 o ∧ vl 256 o = vl 18446744073709551616 l % 256 ^ n ∧ Evn (fun k => number_Bytes.l0 k l out n i) (o, 0) := by
  have hv := vl_nonneg h B0
  intro d
  induction d with
  | zero =>
    intro i out hi ho hd hvv
    obtain rfl : i = n := by omega
    have ht : out.take i = out := by rw [← ho]; exact List.take_length
    rw [ht] at hd hvv
    exact ⟨out, ho, hd, hvv, Evn.succ (h := fun _ => some (out, 0)) (fun k => by rw [number_Bytes.l0, if_neg (by omega)]) (Evn.of fun _ => rfl)⟩
  | succ d ih =>
    intro i out hi ho hd hvv
    have hr := rd_bd h B0 (i / 8)
    have t1 := tdiv_nat i 8
    have t2 := tmod_nat i 8
    rw [show ((8 : Nat) : Int) = 8 from rfl] at t1 t2
    have hdig : rd l ((i / 8 : Nat) : Int) / 2 ^ (8 * (i % 8)) % 256 = vl 18446744073709551616 l / 256 ^ i % 256 := by
      rw [rd_vl h B0]
      have hpw : (256 : Int) ^ i = 18446744073709551616 ^ (i / 8) * 256 ^ (i % 8) := by
        rw [show (18446744073709551616 : Int) = 256 ^ 8 from rfl, ← Int.pow_mul, ← Int.pow_add]; congr 1; omega
      have hs8 : (2 : Int) ^ (8 * (i % 8)) = 256 ^ (i % 8) := by rw [Int.pow_mul]; rfl
      rw [hs8, hpw, ← Int.ediv_ediv_of_nonneg (Int.le_of_lt (pow_pos B0 _))]
      generalize vl 18446744073709551616 l / 18446744073709551616 ^ (i / 8) = X
      have hp := pow_pos C0 (i % 8)
      have e1 : (18446744073709551616 : Int) = 256 ^ (i % 8) * (256 * 256 ^ (7 - i % 8)) := by
        rw [← Int.pow_succ', ← Int.pow_add, show i % 8 + (7 - i % 8 + 1) = 8 by omega]; rfl
      have e2 := Int.emod_add_mul_ediv X 18446744073709551616
      have e3 : X = X % 18446744073709551616 + 256 ^ (i % 8) * (256 * (256 ^ (7 - i % 8) * (X / 18446744073709551616))) := by
        conv at e2 => lhs; rhs; rw [e1]
        grind
      conv => rhs; rw [e3]
      rw [Int.add_mul_ediv_left _ _ (by omega), Int.add_mul_emod_self_left]
    have hb0 := Int.emod_nonneg (vl 18446744073709551616 l / 256 ^ i) (show (256 : Int) ≠ 0 by omega)
    have hb1 := Int.emod_lt_of_pos (vl 18446744073709551616 l / 256 ^ i) C0
    obtain ⟨o, h1, h2, h3, h4⟩ := ih (i + 1) (out.set i (vl 18446744073709551616 l / 256 ^ i % 256)) (by omega) (by rw [List.length_set]; exact ho) (dg_set_take hd (by omega) hb0 hb1) (by
      rw [vl_set_take _ _ _ (by omega), hvv, Int.pow_succ, mod_succ _ _ _ (pow_pos C0 i)])
    refine ⟨o, h1, h2, h3, Evn.succ (fun k => ?_) h4⟩
    rw [number_Bytes.l0, if_pos (by omega), t1, t2, w64 ((i / 8 : Nat) : Int) (by omega) (by omega), at_nn, bsome, w64 (8 * ((i % 8 : Nat) : Int)) (by omega) (by omega), if_pos (by omega), if_pos (by omega), if_pos (by omega), show 8 * ((i % 8 : Nat) : Int) = ((8 * (i % 8) : Nat) : Int) by omega, shr_eq _ _ (by omega), hdig, Int.toNat_natCast, w64 _ (by omega) (by omega)]
    rfl
/-- The bytes of a number, so many. -/
theorem nbytes_ev (l : List Int) (h : dg 18446744073709551616 l) (hl : l.length ≤ 1073741824) (n : Nat) (hn : n ≤ 65536) (hlt : vl 18446744073709551616 l < 256 ^ n) :
    ∃ o : List Int, o.length = n ∧ dg 256 o ∧ vl 256 o = vl 18446744073709551616 l ∧ Evn (fun k => number_Bytes.f k l (n : Int)) (o, 0) := by
  have hv := vl_nonneg h B0
  obtain ⟨o, h1, h2, h3, h4⟩ := nbytes_loop l h n hn n 0 (List.replicate n 0) (by omega) (by simp) (by simp; exact dg_nil) (by simp [vl])
  rw [Int.emod_eq_of_lt hv hlt] at h3
  refine ⟨o, h1, h2, h3, Evn.congr (fun k => by unfold number_Bytes.f; rw [if_neg (by omega), decide_eq_false (by omega)]) ?_⟩
  have hnb : nbit (vl 18446744073709551616 l) ≤ 8 * n := nbit_le (n := vl 18446744073709551616 l) (m := 8 * n) (by rw [Int.pow_mul]; exact hlt)
  refine Evn.succ (h := fun k => (number_Len.f k l).bind fun t620 => (if t620 > (wrap64 (8 * (n : Int))) then (some (([] : List Int), 11)) else (if 0 ≤ (n : Int) then (if ((n : Int) : Int).toNat ≤ 281474976710656 then ((some (List.replicate ((n : Int) : Int).toNat 0 : List Int)).bind fun y621 => (number_Bytes.l0 k l y621 (y621.length : Int) 0)) else (none)) else (none)))) (fun k => by rw [number_Bytes.j0, if_neg (by decide)]) (Evn.bind (len_ev l h hl) (Evn.congr (fun k => ?_) h4))
  rw [w64 (8 * (n : Int)) (by omega) (by omega), if_neg (by omega), if_pos (by omega), if_pos (by omega), bsome, Int.toNat_natCast, List.length_replicate]
  rfl
end Go.Proofs.Ytdaehflffecllaa.A
namespace Go.Proofs.Ytdaehflffecllaa.A
open Go.RowKit Go.Proofs.YtdaehflffecllaaW.PrintWords Go.Proofs.Ytdaehflffecllaa.N Go.Proofs.Ytdaehflffecllaa.T
set_option exponentiation.threshold 2000
theorem bs6 {α β : Type} (a : α) (f : α → Option β) : (some a).bind f = f a := by cases h : f a <;> simp [h]
def CC : Int := 13818066809895115352007386748515426880336692474882178609894547503885
def LL : Int := 181709681073901722637330951972001133588410340171829515070372549795146003961539585716195755291692375963310293709091662304773755859649779
def lessL : List Int := [15890737349981092621, 16038230375712583850, 4301259484579875183, 2201345046]
theorem LL_eq : LL = 2 ^ 446 - CC := by decide +kernel
theorem CC_lt : 0 < CC ∧ CC < 2 ^ 224 := by decide +kernel
theorem LL_pos : 0 < LL := by decide +kernel
theorem LL_lt : LL < 2 ^ 446 := by decide +kernel
theorem P446 : (2 : Int) ^ 446 < 18446744073709551616 ^ 7 := by decide +kernel
theorem P446' : (2 : Int) ^ 446 < 2 * LL := by decide +kernel
theorem lessL_dw : dg 18446744073709551616 lessL := by
  intro x hx
  simp only [lessL, List.mem_cons, List.not_mem_nil, or_false] at hx
  omega
theorem lessL_val : vl 18446744073709551616 lessL = CC := by decide +kernel
theorem g7_rd (l : List Int) (i : Nat) : g7 l i = rd l (i : Int) := by unfold g7; rw [rd_cast]
theorem pk_dw {l : List Int} (h : dg 18446744073709551616 l) : dg 18446744073709551616 (pk l) := by
  intro x hx
  simp only [pk, List.mem_cons, List.not_mem_nil, or_false] at hx
  rcases hx with rfl | rfl | rfl | rfl | rfl | rfl | rfl <;> rw [g7_rd] <;> exact rd_bd h B0 _
theorem pk_val {l : List Int} (h : dg 18446744073709551616 l) (hlt : vl 18446744073709551616 l < 18446744073709551616 ^ 7) : vl 18446744073709551616 (pk l) = vl 18446744073709551616 l := by
  have h1 := vl_mod h B0 7
  rw [Int.emod_eq_of_lt (vl_nonneg h B0) hlt] at h1
  rw [h1]
  have e : ∀ i : Nat, vl 18446744073709551616 (l.take (i + 1)) = vl 18446744073709551616 (l.take i) + 18446744073709551616 ^ i * rd l (i : Int) := fun i => vl_take_succ l i
  have e0 : vl 18446744073709551616 (l.take 0) = 0 := by simp [vl]
  rw [e 6, e 5, e 4, e 3, e 2, e 1, e 0, e0]
  simp only [pk, vl, g7_rd]
  omega
/-- A number below L as seven words. -/
def sc (n : Int) : List Int := pk (dgs 18446744073709551616 n)
theorem l7_sc (n : Int) : l7 (sc n) = sc n := rfl
theorem sc_dw {n : Int} (h : 0 ≤ n) : dg 18446744073709551616 (sc n) := pk_dw (dgs_dg B2 n h)
theorem sc_val {n : Int} (h : 0 ≤ n) (hlt : n < LL) : vl 18446744073709551616 (sc n) = n := by
  have hv := vl_dgs B2 n h
  have := LL_lt
  have := P446
  rw [sc, pk_val (dgs_dg B2 n h) (by rw [hv]; omega), hv]
theorem pk_sc {l : List Int} {n : Int} (h : dg 18446744073709551616 l) (hn : vl 18446744073709551616 l = n) (hlt : n < 18446744073709551616 ^ 7) : pk l = sc n := by
  have h0 := vl_nonneg h B0
  rw [hn] at h0
  refine dg_inj B0 _ _ (pk_dw h) (pk_dw (dgs_dg B2 n h0)) rfl ?_
  unfold sc
  rw [pk_val h (by omega), pk_val (dgs_dg B2 n h0) (by rw [vl_dgs B2 n h0]; exact hlt), hn, vl_dgs B2 n h0]
theorem sc_len (n : Int) : (sc n).length = 7 := rfl
theorem sw_len17 {n : Int} (h0 : 0 ≤ n) (h : n < 18446744073709551616 ^ 17) : (dgs 18446744073709551616 n).length ≤ 17 := dgs_len_le B2 n h0 17 h
theorem order_ev : Evn (fun k => scalar_order.f k) (dgs 18446744073709551616 LL) := by
  have e1 := shift_ev [1] (dg_one (by omega) (by omega)) (by simp) 446
  rw [vl_one, show shiftR 1 446 = (dgs 18446744073709551616 (2 ^ 446), 0) by unfold shiftR shv; rw [if_neg (by omega), if_pos (by omega)]; rfl] at e1
  have hp : (0 : Int) ≤ 2 ^ 446 := by decide +kernel
  have hl : (dgs 18446744073709551616 (2 ^ 446)).length ≤ 17 := sw_len17 hp (by decide +kernel)
  have e2 := sub_ev (dgs 18446744073709551616 (2 ^ 446)) lessL (dgs_dg B2 _ hp) lessL_dw (by omega) (by decide)
  have hc := CC_lt
  have h2 : (2 : Int) ^ 223 ≤ 2 ^ 446 := by decide +kernel
  rw [vl_dgs B2 _ hp, lessL_val, show subR (2 ^ 446) CC = (dgs 18446744073709551616 LL, 0) by unfold subR; rw [if_neg (by omega), LL_eq]] at e2
  refine Evn.congr (fun k => by unfold scalar_order.f; rfl) (Evn.bind e1 ?_)
  refine Evn.congr (fun k => by unfold scalar_less.f; rw [bs6]; rfl) (Evn.bind e2 (Evn.of fun _ => rfl))
theorem red_alg (q r n : Int) (h : n = 2 ^ 446 * q + r) : n = r + q * CC + LL * q := by rw [LL_eq, h, Int.sub_mul, Int.mul_comm q CC]; omega
theorem reduce_loop : ∀ (m : Nat) (n : Int) (x : List Int), n.toNat = m → dg 18446744073709551616 x → vl 18446744073709551616 x = n → 0 ≤ n → n < 18446744073709551616 ^ 17 → x.length ≤ 1000 →
    Evn (fun k => scalar_reduce.l0 k x lessL (dgs 18446744073709551616 LL)) (sc (n % LL)) := by
  intro m
  induction m using Nat.strongRecOn with
  | _ m ih =>
    intro n x hm h hv h0 hlt hlen
    have hp : (0 : Int) < 2 ^ 446 := by decide +kernel
    have hL0 := LL_pos
    have hL1 := LL_lt
    have hL2 := P446
    have hL3 := P446'
    have e1 := shift_ev x h (by omega) (-446)
    have hq0 : 0 ≤ n / 2 ^ 446 := ediv_nn h0 (Int.le_of_lt hp)
    have hq1 : n / 2 ^ 446 ≤ n := ediv_le_self' h0
    rw [hv, show shiftR n (-446) = (dgs 18446744073709551616 (n / 2 ^ 446), 0) by unfold shiftR shv; rw [if_neg (by omega), if_neg (by omega)]; rfl] at e1
    have hdm := Int.emod_add_mul_ediv n (2 ^ 446)
    have hr0 := Int.emod_nonneg n (show (2 : Int) ^ 446 ≠ 0 by omega)
    have hr1 := Int.emod_lt_of_pos n hp
    generalize hq : n / 2 ^ 446 = q at e1 hq0 hq1 hdm
    have lq := sw_len17 hq0 (by omega)
    have dq := dgs_dg B2 q hq0
    have vq := vl_dgs B2 q hq0
    have e2 := len_ev (dgs 18446744073709551616 q) dq (by omega)
    rw [vq] at e2
    have hLdg := dgs_dg B2 LL (Int.le_of_lt hL0)
    have hLvl := vl_dgs B2 LL (Int.le_of_lt hL0)
    have hLlen := sw_len17 (Int.le_of_lt hL0) (by omega)
    refine Evn.succ (fun k => by rw [scalar_reduce.l0]) (Evn.bind e1 (Evn.bind e2 ?_))
    by_cases hz : q = 0
    · have hn : n < 2 ^ 446 := by rw [hz] at hdm; omega
      have e3 := compare_ev x (dgs 18446744073709551616 LL) h hLdg (by omega) (by omega)
      rw [hv, hLvl] at e3
      refine Evn.congr (fun k => by rw [hz, nbit_zero, if_pos rfl]) (Evn.bind e3 ?_)
      by_cases hc : LL ≤ n
      · have e4 := sub_ev x (dgs 18446744073709551616 LL) h hLdg (by omega) (by omega)
        rw [hv, hLvl, show subR n LL = (dgs 18446744073709551616 (n - LL), 0) by unfold subR; rw [if_neg (by omega)]] at e4
        have hcmp : cmpI n LL ≥ 0 := by unfold cmpI; rw [if_neg (by omega)]; split <;> omega
        refine Evn.congr (fun k => by rw [if_pos hcmp]) (Evn.bind e4 (Evn.of fun k => ?_))
        have hmod : n % LL = n - LL := mod_of (q := 1) (by omega) (by omega) (by omega)
        show (scalar_pack.f (dgs 18446744073709551616 (n - LL))).bind _ = _
        rw [hmod]
        unfold scalar_pack.f
        rw [bs6]; rfl
      · have hcmp : ¬ cmpI n LL ≥ 0 := by unfold cmpI; rw [if_pos (by omega)]; omega
        refine Evn.congr (fun k => by rw [if_neg hcmp]) (Evn.of fun k => ?_)
        rw [Int.emod_eq_of_lt h0 (by omega)]
        unfold scalar_pack.f
        rw [bs6, pk_sc h hv (by omega)]
    · have hq2 : 1 ≤ q := by omega
      have hnb := nbit_pos (n := q) (by omega)
      have hqm : 0 ≤ 2 ^ 446 * q := Int.mul_nonneg (Int.le_of_lt hp) hq0
      have e3 := shift_ev (dgs 18446744073709551616 q) dq (by omega) 446
      rw [vq, show shiftR q 446 = (dgs 18446744073709551616 (2 ^ 446 * q), 0) by unfold shiftR shv; rw [if_neg (by omega), if_pos (by omega), Int.mul_comm]; rfl] at e3
      have lm := sw_len17 hqm (by omega)
      have e4 := sub_ev x (dgs 18446744073709551616 (2 ^ 446 * q)) h (dgs_dg B2 _ hqm) (by omega) (by omega)
      rw [hv, vl_dgs B2 _ hqm, show subR n (2 ^ 446 * q) = (dgs 18446744073709551616 (n % 2 ^ 446), 0) by unfold subR; rw [if_neg (by omega)]; congr 2; omega] at e4
      have e5 := mul_ev (dgs 18446744073709551616 q) lessL dq lessL_dw (by omega) (by decide)
      rw [vq, lessL_val] at e5
      have hc := CC_lt
      have hqc : 0 ≤ q * CC := Int.mul_nonneg hq0 (by omega)
      have hqc2 : q * CC ≤ q * 2 ^ 446 := Int.mul_le_mul_of_nonneg_left (by have : (2 : Int) ^ 223 ≤ 2 ^ 446 := by decide +kernel
                                                                            omega) hq0
      have hqc3 : q * CC < q * 2 ^ 446 := Int.mul_lt_mul_of_pos_left (by have : (2 : Int) ^ 223 ≤ 2 ^ 446 := by decide +kernel
                                                                         omega) (by omega)
      have hcomm : q * 2 ^ 446 = 2 ^ 446 * q := Int.mul_comm _ _
      have lr := sw_len17 hr0 (by omega)
      have lc := sw_len17 hqc (by omega)
      have e6 := add_ev (dgs 18446744073709551616 (n % 2 ^ 446)) (dgs 18446744073709551616 (q * CC)) (dgs_dg B2 _ hr0) (dgs_dg B2 _ hqc) (by omega) (by omega)
      rw [vl_dgs B2 _ hr0, vl_dgs B2 _ hqc] at e6
      have hn0 : 0 ≤ n % 2 ^ 446 + q * CC := by omega
      have e7 := ih (n % 2 ^ 446 + q * CC).toNat (by omega) (n % 2 ^ 446 + q * CC) (dgs 18446744073709551616 (n % 2 ^ 446 + q * CC)) rfl (dgs_dg B2 _ hn0) (vl_dgs B2 _ hn0) hn0 (by omega) (by have := sw_len17 hn0 (by omega); omega)
      have halg := red_alg q (n % 2 ^ 446) n (by omega)
      have hmod : n % LL = (n % 2 ^ 446 + q * CC) % LL := by
        conv => lhs; rw [halg]
        rw [Int.add_mul_emod_self_left]
      rw [hmod]
      refine Evn.congr (fun k => by rw [if_neg (by omega)]) (Evn.bind e3 (Evn.bind e4 (Evn.bind e5 (Evn.bind e6 e7))))
theorem reduce_ev (l : List Int) (n : Int) (h : dg 18446744073709551616 l) (hv : vl 18446744073709551616 l = n) (hlt : n < 18446744073709551616 ^ 17) (hl : l.length ≤ 1000) : Evn (fun k => scalar_reduce.f k l) (sc (n % LL)) := by
  have h0 := vl_nonneg h B0
  refine Evn.congr (fun k => by unfold scalar_reduce.f scalar_less.f; rw [bs6]) (Evn.bind order_ev ?_)
  exact reduce_loop n.toNat n l rfl h hv (by omega) hlt hl
theorem reduce_sw (n : Int) (h0 : 0 ≤ n) (hlt : n < 18446744073709551616 ^ 17) : Evn (fun k => scalar_reduce.f k (dgs 18446744073709551616 n)) (sc (n % LL)) :=
  reduce_ev (dgs 18446744073709551616 n) n (dgs_dg B2 n h0) (vl_dgs B2 n h0) hlt (by have := sw_len17 h0 hlt; omega)
theorem mod_rg (n : Int) : 0 ≤ n % LL ∧ n % LL < LL := ⟨Int.emod_nonneg _ (by have := LL_pos; omega), Int.emod_lt_of_pos _ LL_pos⟩
theorem LL_17 : 4 * LL < 18446744073709551616 ^ 17 ∧ LL * LL < 18446744073709551616 ^ 17 := by decide +kernel
theorem nat_eval (n : Int) : scalar_Scalar_nat.f (sc n) = some (sc n) := by unfold scalar_Scalar_nat.f; rw [l7_sc]
theorem sadd_ev (m n : Int) (hm : 0 ≤ m) (hm1 : m < LL) (hn : 0 ≤ n) (hn1 : n < LL) : Evn (fun k => scalar_Add.f k (sc m) (sc n)) (sc ((m + n) % LL)) := by
  have h17 := LL_17
  have e1 := add_ev (sc m) (sc n) (sc_dw hm) (sc_dw hn) (by rw [sc_len]; omega) (by rw [sc_len]; omega)
  rw [sc_val hm hm1, sc_val hn hn1] at e1
  refine Evn.congr (fun k => by unfold scalar_Add.f; rw [nat_eval, nat_eval, bs6, bs6]) (Evn.bind e1 (Evn.bind (reduce_sw (m + n) (by omega) (by omega)) (Evn.of fun _ => rfl)))
theorem neg_mod (n : Int) : (LL - n) % LL = (-n) % LL := by
  rw [show LL - n = -n + LL * 1 by omega, Int.add_mul_emod_self_left]
theorem sneg_ev (n : Int) (hn : 0 ≤ n) (hn1 : n < LL) : Evn (fun k => scalar_Neg.f k (sc n)) (sc ((-n) % LL)) := by
  have h17 := LL_17
  have hL := Int.le_of_lt LL_pos
  have hll := sw_len17 hL (by omega)
  have e1 := sub_ev (dgs 18446744073709551616 LL) (sc n) (dgs_dg B2 _ hL) (sc_dw hn) (by omega) (by rw [sc_len]; omega)
  rw [vl_dgs B2 _ hL, sc_val hn hn1, show subR LL n = (dgs 18446744073709551616 (LL - n), 0) by unfold subR; rw [if_neg (by omega)]] at e1
  have e2 := reduce_sw (LL - n) (by omega) (by omega)
  rw [neg_mod] at e2
  refine Evn.congr (fun k => by unfold scalar_Neg.f; rfl) (Evn.bind order_ev ?_)
  refine Evn.congr (fun k => by rw [nat_eval, bs6]) (Evn.bind e1 (Evn.bind e2 (Evn.of fun _ => rfl)))
theorem ssub_ev (m n : Int) (hm : 0 ≤ m) (hm1 : m < LL) (hn : 0 ≤ n) (hn1 : n < LL) : Evn (fun k => scalar_Sub.f k (sc m) (sc n)) (sc ((m - n) % LL)) := by
  have h1 := mod_rg (-n)
  have e := sadd_ev m ((-n) % LL) hm hm1 h1.1 h1.2
  rw [Int.add_emod_emod, show m + -n = m - n by omega] at e
  exact Evn.congr (fun k => by unfold scalar_Sub.f; rfl) (Evn.bind (sneg_ev n hn hn1) (Evn.bind e (Evn.of fun _ => rfl)))
theorem zero_ev (n : Int) (hn : 0 ≤ n) (hn1 : n < LL) : Evn (fun k => scalar_Zero.f k (sc n)) (decide (n = 0)) := by
  have e1 := len_ev (sc n) (sc_dw hn) (by rw [sc_len]; omega)
  rw [sc_val hn hn1] at e1
  refine Evn.congr (fun k => by unfold scalar_Zero.f; rw [nat_eval, bs6]) (Evn.bind e1 (Evn.of fun _ => ?_))
  congr 1
  by_cases hz : n = 0
  · rw [hz, nbit_zero]; rfl
  · rw [decide_eq_false hz]
    exact beq_eq_false_iff_ne.2 (fun e => by have := nbit_pos (n := n) (by omega); omega)
theorem sub_zero_iff (m n : Int) (hm : 0 ≤ m) (hm1 : m < LL) (hn : 0 ≤ n) (hn1 : n < LL) : (m - n) % LL = 0 ↔ m = n := by
  constructor
  · intro h
    have h1 := Int.emod_add_mul_ediv (m - n) LL
    rw [h] at h1
    have hL := LL_pos
    have hq : (m - n) / LL = 0 := by
      by_cases hq : (m - n) / LL = 0
      · exact hq
      · exfalso
        rcases (show (m - n) / LL ≤ -1 ∨ 1 ≤ (m - n) / LL by omega) with h2 | h2
        · have := Int.mul_le_mul_of_nonneg_left h2 (Int.le_of_lt hL); omega
        · have := Int.mul_le_mul_of_nonneg_left h2 (Int.le_of_lt hL); omega
    rw [hq] at h1; omega
  · intro h; rw [h, Int.sub_self]; rfl
theorem equal_ev (m n : Int) (hm : 0 ≤ m) (hm1 : m < LL) (hn : 0 ≤ n) (hn1 : n < LL) : Evn (fun k => scalar_Equal.f k (sc m) (sc n)) (decide (m = n)) := by
  have hr := mod_rg (m - n)
  have e := zero_ev ((m - n) % LL) hr.1 hr.2
  rw [show decide ((m - n) % LL = 0) = decide (m = n) from decide_eq_decide.2 (sub_zero_iff m n hm hm1 hn hn1)] at e
  exact Evn.congr (fun k => by unfold scalar_Equal.f; rfl) (Evn.bind (ssub_ev m n hm hm1 hn hn1) (Evn.bind e (Evn.of fun _ => rfl)))
end Go.Proofs.Ytdaehflffecllaa.A
namespace Go.Proofs.Ytdaehflffecllaa.A
open Go.RowKit Go.Proofs.YtdaehflffecllaaW.PrintWords Go.Proofs.Ytdaehflffecllaa.N Go.Proofs.Ytdaehflffecllaa.T
theorem emono {α : Type} {g : Nat → Option α} {r : α} (K : Nat) (hm : ∀ k, LeO (g k) (g (k + 1))) (h : g K = some r) : Evn g r := by
  refine ⟨K, fun k hk => ?_⟩
  induction k with
  | zero => rw [show K = 0 by omega] at h; exact h
  | succ k ih =>
    by_cases e : K = k + 1
    · rw [← e]; exact h
    · exact hm k r (ih (by omega))
theorem awake6_ev : Evn (fun k => chicorylaw06_awake.f k) true := emono 80 chicorylaw06_awake.mono (by kernel_rfl)
theorem awake6_some : Evn (fun k => (chicorylaw06_awake.f k).bind fun t => some t) true := Evn.bind awake6_ev (Evn.of fun _ => rfl)
theorem sb_len57 {n : Int} (h0 : 0 ≤ n) (h : n < 256 ^ 57) : (dgs 256 n).length ≤ 57 := dgs_len_le C2 n h0 57 h
theorem LL_57 : 4 * LL < 256 ^ 57 ∧ LL * LL < 256 ^ 128 := by decide +kernel
/-- A number's 57 bytes. -/
def b57 (n : Int) : List Int := dgs 256 n ++ List.replicate (57 - (dgs 256 n).length) 0
theorem b57_len {n : Int} (h0 : 0 ≤ n) (h : n < 256 ^ 57) : (b57 n).length = 57 := by
  have := sb_len57 h0 h
  unfold b57; rw [List.length_append, List.length_replicate]; omega
theorem b57_db {n : Int} (h0 : 0 ≤ n) : dg 256 (b57 n) := dg_append (dgs_dg C2 n h0) (dg_replicate C0 _)
theorem b57_val {n : Int} (h0 : 0 ≤ n) : vl 256 (b57 n) = n := by
  unfold b57; rw [vl_append, vl_zeros, vl_dgs C2 n h0]; omega
theorem sbytes_ev (n : Int) (hn : 0 ≤ n) (hn1 : n < LL) : Evn (fun k => scalar_Bytes.f k (sc n)) (b57 n) := by
  have h57 := LL_57
  obtain ⟨o, h1, h2, h3, h4⟩ := nbytes_ev (sc n) (sc_dw hn) (by rw [sc_len]; omega) 57 (by omega) (by rw [sc_val hn hn1]; omega)
  rw [sc_val hn hn1] at h3
  have e : o = b57 n := dg_inj C0 _ _ h2 (b57_db hn) (by rw [h1, b57_len hn (by omega)]) (by rw [h3, b57_val hn])
  rw [e] at h4
  exact Evn.congr (fun k => by unfold scalar_Bytes.f; rw [nat_eval, bs6]; rfl) (Evn.bind h4 (Evn.of fun _ => rfl))
theorem sReduce_ev (l : List Int) (h : dg 256 l) (hl : l.length ≤ 128) : Evn (fun k => scalar_Reduce.f k l) (sc (vl 256 l % LL), 0) := by
  have h0 := vl_nonneg h C0
  have hlt := vl_lt h C0
  have hp : (256 : Int) ^ l.length ≤ 256 ^ 128 := pow_le C0 hl
  have hB : (256 : Int) ^ 128 < 18446744073709551616 ^ 17 := by decide +kernel
  exact Evn.congr (fun k => by unfold scalar_Reduce.f; rw [if_neg (by omega)]) (Evn.bind (of_ev l h (by omega)) (Evn.bind (h := fun _ (t : List Int) => some (t, (0 : Int))) (reduce_sw (vl 256 l) h0 (by omega)) (Evn.of fun _ => rfl)))
theorem bytes_of {l : List Int} (h : ∀ x ∈ l, (Lit.int .u8 x).wf = true) : dg 256 l := fun x hx => by
  have := h x hx
  simp [Lit.wf, IntKind.min, IntKind.max, IntKind.signed, IntKind.bits] at this
  omega
/-- Raw bytes: 57 of them. -/
def Rw (a : List Int) : Prop := a.length = 57 ∧ dg 256 a
theorem l57_id {a : List Int} (h : a.length = 57) : l57 a = a := by
  apply List.ext_getElem (by rw [h]; rfl)
  intro i h1 h2
  have e : ∀ j : Nat, j < 57 → (l57 a)[j]? = some (g7 a j) := by
    intro j hj
    have : l57 a = (List.range 57).map (g7 a) := rfl
    rw [this]; simp [hj]
  have h3 := e i (by omega)
  rw [List.getElem?_eq_getElem h1] at h3
  rw [Option.some.inj h3]
  unfold g7
  rw [List.getD_eq_getElem?_getD, List.getElem?_eq_getElem h2]; rfl
theorem made_ev (a : List Int) (h : Rw a) : Evn (fun k => chicorylaw06_Made.f k a) (sc (vl 256 a % LL), true) := by
  have e := sReduce_ev a h.2 (by rw [h.1]; omega)
  exact Evn.congr (fun k => by unfold chicorylaw06_Made.f chicorylaw06_Bytes.f; rw [bs6, l57_id h.1]) (Evn.bind e (Evn.of fun _ => rfl))
end Go.Proofs.Ytdaehflffecllaa.A
namespace Go.Proofs.Ytdaehflffecllaa.Pure
open Go.RowKit Go.Proofs.Ytdaehflffecllaa.N Go.Proofs.YtdaehflffecllaaW.PrintWords Go.Proofs.Ytdaehflffecllaa.T Go.Proofs.Ytdaehflffecllaa.A
theorem sL_ev : Evn (fun k => scalar_L.f k) (b57 LL) := by
  have hL := Int.le_of_lt LL_pos
  have h57 := LL_57
  have h17 := LL_17
  have hll := sw_len17 hL (by omega)
  obtain ⟨o, h1, h2, h3, h4⟩ := nbytes_ev (dgs 18446744073709551616 LL) (dgs_dg B2 _ hL) (by omega) 57 (by omega) (by rw [vl_dgs B2 _ hL]; omega)
  rw [vl_dgs B2 _ hL] at h3
  have e : o = b57 LL := dg_inj C0 _ _ h2 (b57_db hL) (by rw [h1, b57_len hL (by omega)]) (by rw [h3, b57_val hL])
  rw [e] at h4
  exact Evn.congr (fun k => by unfold scalar_L.f; rfl) (Evn.bind order_ev (Evn.bind (h := fun _ (x : List Int × Int) => some x.1) h4 (Evn.of fun _ => rfl)))
theorem decode_ev (l : List Int) (h : dg 256 l) (hl : l.length = 56 ∨ l.length = 57) : Evn (fun k => scalar_Decode.f k l) (if vl 256 l < LL then (sc (vl 256 l), 0) else (z7, 14)) := by
  have h0 := vl_nonneg h C0
  have hlt := vl_lt h C0
  have hp : (256 : Int) ^ l.length ≤ 256 ^ 57 := pow_le C0 (by omega)
  have hB : (256 : Int) ^ 57 < 18446744073709551616 ^ 17 := by decide +kernel
  have hL := Int.le_of_lt LL_pos
  have h17 := LL_17
  have hll := sw_len17 hL (by omega)
  have hvl := sw_len17 h0 (by omega)
  have e := compare_ev (dgs 18446744073709551616 (vl 256 l)) (dgs 18446744073709551616 LL) (dgs_dg B2 _ h0) (dgs_dg B2 _ hL) (by omega) (by omega)
  rw [vl_dgs B2 _ h0, vl_dgs B2 _ hL] at e
  have hj : Evn (fun k => scalar_Decode.j0 k l false) (if vl 256 l < LL then (sc (vl 256 l), 0) else (z7, 14)) := by
    refine Evn.succ (fun k => by rw [scalar_Decode.j0, if_neg (by decide)]) (Evn.bind (of_ev l h (by omega)) (Evn.bind order_ev (Evn.bind e ?_)))
    by_cases hc : vl 256 l < LL
    · have hcmp : ¬ cmpI (vl 256 l) LL ≥ 0 := by unfold cmpI; rw [if_pos hc]; omega
      have e2 := reduce_sw (vl 256 l) h0 (by omega)
      rw [Int.emod_eq_of_lt h0 hc] at e2
      rw [if_pos hc]
      exact Evn.congr (fun k => by rw [if_neg hcmp]) (Evn.bind (h := fun _ (t : List Int) => some (t, (0 : Int))) e2 (Evn.of fun _ => rfl))
    · have hcmp : cmpI (vl 256 l) LL ≥ 0 := by unfold cmpI; rw [if_neg hc]; split <;> omega
      rw [if_neg hc]
      exact Evn.of fun k => by rw [if_pos hcmp]
  refine Evn.congr (fun k => ?_) hj
  unfold scalar_Decode.f
  by_cases h57 : l.length = 57
  · rw [if_pos (by omega)]
  · rw [if_neg (by omega), bne_eq_false_iff_eq.2 (by omega)]
end Go.Proofs.Ytdaehflffecllaa.Pure
namespace Go.Proofs.Ytdaehflffecllaa.Pure
open Go.RowKit Go.Proofs.Ytdaehflffecllaa.N Go.Proofs.YtdaehflffecllaaW.PrintWords Go.Proofs.Ytdaehflffecllaa.T Go.Proofs.Ytdaehflffecllaa.A
theorem LL_56 : LL < 256 ^ 56 := by decide +kernel
theorem sb_len56 {n : Int} (h0 : 0 ≤ n) (h : n < 256 ^ 56) : (dgs 256 n).length ≤ 56 := dgs_len_le C2 n h0 56 h
theorem b57_split {n : Int} (h0 : 0 ≤ n) (h : n < 256 ^ 56) : b57 n = (dgs 256 n ++ List.replicate (56 - (dgs 256 n).length) 0) ++ [0] := by
  have hl := sb_len56 h0 h
  unfold b57
  rw [show 57 - (dgs 256 n).length = (56 - (dgs 256 n).length) + 1 by omega, List.replicate_succ', List.append_assoc]
theorem b56_len {n : Int} (h0 : 0 ≤ n) (h : n < 256 ^ 56) : (dgs 256 n ++ List.replicate (56 - (dgs 256 n).length) 0).length = 56 := by
  have hl := sb_len56 h0 h
  rw [List.length_append, List.length_replicate]; omega
theorem b57_top {n : Int} (h0 : 0 ≤ n) (h : n < 256 ^ 56) : rd (b57 n) 56 = 0 := by
  rw [show (56 : Int) = ((56 : Nat) : Int) from rfl, rd_cast, b57_split h0 h, List.getD_eq_getElem?_getD, List.getElem?_append_right (by rw [b56_len h0 h]; omega), b56_len h0 h]
  rfl
theorem b57_take {n : Int} (h0 : 0 ≤ n) (h : n < 256 ^ 56) : (b57 n).take 56 = dgs 256 n ++ List.replicate (56 - (dgs 256 n).length) 0 := by
  rw [b57_split h0 h, List.take_append_of_le_length (by rw [b56_len h0 h]; omega), List.take_of_length_le (by rw [b56_len h0 h]; omega)]
theorem b56_val {n : Int} (h0 : 0 ≤ n) : vl 256 (dgs 256 n ++ List.replicate (56 - (dgs 256 n).length) 0) = n := by
  rw [vl_append, vl_zeros, vl_dgs C2 n h0]; omega
theorem ScalarSame (a l : List Int) (ha : Rw a) (hl : ∀ z ∈ l, (Lit.int .u8 z).wf = true) : ∃ k, chicorylaw06_ScalarSame.f k a l = some true := by
  have d0 := bytes_of hl
  refine Evn.get (?_ : Evn (fun k => chicorylaw06_ScalarSame.f k a l) true)
  have hm := mod_rg (vl 256 a)
  generalize hma : vl 256 a % LL = m at hm
  have ma := made_ev a ha
  rw [hma] at ma
  obtain ⟨m0, m1⟩ := hm
  have h56 := LL_56
  have h57 := LL_57
  have hL := Int.le_of_lt LL_pos
  by_cases h60 : 60 < l.length
  · have hj : Evn (fun k => chicorylaw06_ScalarSame.j0 k l true true (sc m)) true := Evn.succ (fun k => by rw [chicorylaw06_ScalarSame.j0, if_pos rfl, if_pos rfl]) awake6_some
    refine Evn.congr (fun k => by unfold chicorylaw06_ScalarSame.f; rfl) (Evn.bind ma (Evn.congr (fun k => ?_) hj))
    rw [if_pos rfl, decide_eq_true (by omega)]
  · have hb57 := b57_len m0 (show m < 256 ^ 57 by omega)
    have hbL := b57_len hL (show LL < 256 ^ 57 by omega)
    have eb := sbytes_ev m m0 m1
    have e1 := decode_ev (b57 m) (b57_db m0) (.inr hb57)
    rw [b57_val m0, if_pos m1] at e1
    have e2 := decode_ev ((b57 m).take 56) (dg_take (b57_db m0) 56) (.inl (by rw [b57_take m0 (by omega), b56_len m0 (by omega)]))
    rw [b57_take m0 (by omega), b56_val m0, if_pos m1, ← b57_take m0 (by omega)] at e2
    have e3 := sReduce_ev (b57 LL) (b57_db hL) (by omega)
    rw [b57_val hL, Int.emod_self] at e3
    have e4 := decode_ev (b57 LL) (b57_db hL) (.inr hbL)
    rw [b57_val hL, if_neg (by omega)] at e4
    have e5 := sReduce_ev l d0 (by omega)
    have d6 : dg 256 (l ++ [0, 0, 0]) := dg_append d0 (dg_replicate C0 3)
    have e6 := sReduce_ev (l ++ [0, 0, 0]) d6 (by rw [List.length_append]; simp only [List.length_cons, List.length_nil]; omega)
    rw [vl_append, show vl 256 [0, 0, 0] = 0 from by decide, Int.mul_zero, Int.add_zero] at e6
    obtain ⟨c, hc⟩ : ∃ c, scalar_Clamp.f l = some c := by
      unfold scalar_Clamp.f
      rw [if_pos (by omega)]
      split
      · exact ⟨_, rfl⟩
      · exact ⟨_, rfl⟩
    have eq1 := equal_ev m m m0 m1 m0 m1
    rw [decide_eq_true rfl] at eq1
    have ez := zero_ev 0 (by omega) LL_pos
    rw [decide_eq_true rfl] at ez
    have hr := mod_rg (vl 256 l)
    have eq2 := equal_ev (vl 256 l % LL) (vl 256 l % LL) hr.1 hr.2 hr.1 hr.2
    rw [decide_eq_true rfl] at eq2
    have eB := beq_ev l l (by omega)
    rw [decide_eq_true rfl] at eB
    have hj1 : Evn (fun k => chicorylaw06_ScalarSame.j1 k l (b57 m) false (sc m)) true := by
      refine Evn.succ (fun k => by rw [chicorylaw06_ScalarSame.j1, if_neg (by decide)]) (Evn.bind e1 ?_)
      refine Evn.congr (fun k => by rw [if_pos (by omega)]) (Evn.bind e2 (Evn.bind sL_ev (Evn.bind e3 (Evn.bind sL_ev (Evn.bind e4 ?_)))))
      refine Evn.congr (fun k => by rw [if_pos (by simp only [List.length_nil]; omega), bs6, bs6, if_pos (by simp only [List.nil_append, List.length_cons, List.length_nil]; omega), List.nil_append]) (Evn.bind e5 (Evn.bind e6 (Evn.bind (Evn.of fun _ => hc) ?_)))
      refine Evn.congr (fun k => by rw [if_pos rfl, if_pos rfl]) (Evn.bind eq1 ?_)
      refine Evn.congr (fun k => by rw [if_pos rfl]) (Evn.bind eq1 ?_)
      refine Evn.congr (fun k => by rw [if_pos rfl, if_pos rfl]) (Evn.bind ez ?_)
      refine Evn.congr (fun k => by rw [if_pos rfl, if_pos rfl, if_pos rfl, if_pos rfl]) (Evn.bind eq2 ?_)
      refine Evn.congr (fun k => by rw [if_pos rfl]) (Evn.bind eB ?_)
      exact Evn.congr (fun k => by rw [if_pos rfl]) awake6_some
    have hj0 : Evn (fun k => chicorylaw06_ScalarSame.j0 k l true false (sc m)) true := by
      refine Evn.succ (fun k => by rw [chicorylaw06_ScalarSame.j0, if_neg (by decide)]) (Evn.bind eb ?_)
      exact Evn.congr (fun k => by rw [if_pos (by omega), if_pos (by omega), b57_top m0 (by omega), bne_self_eq_false]) hj1
    refine Evn.congr (fun k => by unfold chicorylaw06_ScalarSame.f; rfl) (Evn.bind ma (Evn.congr (fun k => ?_) hj0))
    rw [if_pos rfl, decide_eq_false (by omega)]
end Go.Proofs.Ytdaehflffecllaa.Pure
