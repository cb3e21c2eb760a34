/- What the reference's functions on bytes come to: cutting, the bytes of words, comparing, bits, how many bits. -/
import Derived.Test.YtdaehflffecllaaNx4
import Derived.Test.YtdaehflffecllaaT1
namespace Go.Proofs.Ytdaehflffecllaa.A
open Go.RowKit Go.Proofs.YtdaehflffecllaaW.PrintWords Go.Proofs.Ytdaehflffecllaa.N Go.Proofs.Ytdaehflffecllaa.T

theorem C2 : (2 : Int) ≤ 256 := by omega
theorem C0 : (0 : Int) < 256 := by omega
theorem max_nat (a b : Nat) : mx (a : Int) (b : Int) = ((max a b : Nat) : Int) := by unfold mx; split <;> omega

theorem rcut_loop (l : List Int) (hl : l.length ≤ 4611686018427387904) : ∀ m : Nat, m ≤ l.length → cutL (l.take m) = cutL l → Evn (fun k => chicoryref03_Cut.l0 k l (m : Int)) (cutL l) := by
  intro m
  induction m with
  | zero =>
    intro _ h
    refine Evn.succ (h := fun _ => some (cutL l)) (fun k => ?_) (Evn.of fun _ => rfl)
    rw [chicoryref03_Cut.l0, if_neg (by omega), if_pos (by omega), if_pos (by omega), ← h]
    rfl
  | succ m ih =>
    intro hm h
    have e0 : wrap64 (((m + 1 : Nat) : Int) - 1) = (m : Int) := by rw [w64 _ (by omega) (by omega)]; omega
    have ht := take_rd l m (by omega)
    by_cases hx : rd l (m : Int) = 0
    · rw [hx] at ht
      refine Evn.succ (fun k => ?_) (ih (by omega) (by rw [← h, ht, cutL_zero]))
      rw [chicoryref03_Cut.l0, if_pos (by omega), e0, if_pos (by omega), if_pos (by omega), if_pos hx]
    · refine Evn.succ (h := fun _ => some (cutL l)) (fun k => ?_) (Evn.of fun _ => rfl)
      rw [chicoryref03_Cut.l0, if_pos (by omega), e0, if_pos (by omega), if_pos (by omega), if_neg hx, if_pos (by omega), if_pos (by omega), Int.toNat_natCast, ← h, ht, cutL_one _ _ hx]
theorem rcut_ev (l : List Int) (hl : l.length ≤ 4611686018427387904) : Evn (fun k => chicoryref03_Cut.f k l) (cutL l) :=
  Evn.congr (fun _ => rfl) (rcut_loop l hl l.length (Nat.le_refl _) (by rw [List.take_length]))

theorem rcutown_loop (l : List Int) (hl : l.length ≤ 4611686018427387904) : ∀ m : Nat, m ≤ l.length → cutL (l.take m) = cutL l → Evn (fun k => chicoryref03_CutOwn.l0 k l (m : Int)) (cutL l) := by
  intro m
  induction m with
  | zero =>
    intro _ h
    refine Evn.succ (h := fun _ => some (cutL l)) (fun k => ?_) (Evn.of fun _ => rfl)
    rw [chicoryref03_CutOwn.l0, if_neg (by omega), if_pos (by omega), if_pos (by omega), ← h]
    rfl
  | succ m ih =>
    intro hm h
    have e0 : wrap64 (((m + 1 : Nat) : Int) - 1) = (m : Int) := by rw [w64 _ (by omega) (by omega)]; omega
    have ht := take_rd l m (by omega)
    by_cases hx : rd l (m : Int) = 0
    · rw [hx] at ht
      refine Evn.succ (fun k => ?_) (ih (by omega) (by rw [← h, ht, cutL_zero]))
      rw [chicoryref03_CutOwn.l0, if_pos (by omega), e0, if_pos (by omega), if_pos (by omega), if_pos hx]
    · refine Evn.succ (h := fun _ => some (cutL l)) (fun k => ?_) (Evn.of fun _ => rfl)
      rw [chicoryref03_CutOwn.l0, if_pos (by omega), e0, if_pos (by omega), if_pos (by omega), if_neg hx, if_pos (by omega), if_pos (by omega), Int.toNat_natCast, ← h, ht, cutL_one _ _ hx]
theorem rcutown_ev (l : List Int) (hl : l.length ≤ 4611686018427387904) : Evn (fun k => chicoryref03_CutOwn.f k l) (cutL l) :=
  Evn.congr (fun _ => rfl) (rcutown_loop l hl l.length (Nat.le_refl _) (by rw [List.take_length]))

theorem bytes_inner (l : List Int) (i : Nat) (w0 : Int) (hw0 : 0 ≤ w0) (hw1 : w0 < 18446744073709551616) (base : Int) (hi : i ≤ 1099511627776) (r : List Int) :
    ∀ (d j : Nat) (out : List Int), j + d = 8 → out.length = 8 * i + j → dg 256 out → vl 256 out = base + 256 ^ (8 * i) * (w0 % 256 ^ j) →
    (∀ o : List Int, o.length = 8 * i + 8 → dg 256 o → vl 256 o = base + 256 ^ (8 * i) * w0 → Evn (fun k => chicoryref03_Bytes.l0 k l o ((i : Int) + 1)) r) →
    Evn (fun k => chicoryref03_Bytes.l1 k l out (i : Int) (w0 / 256 ^ j) (j : Int)) r := by
  intro d
  induction d with
  | zero =>
    intro j out hj ho hd hv H
    obtain rfl : j = 8 := by omega
    refine Evn.succ (fun k => ?_) (H out ho hd (by rw [hv, Int.emod_eq_of_lt hw0 (by rw [show (256 : Int) ^ 8 = 18446744073709551616 from rfl]; exact hw1)]))
    rw [chicoryref03_Bytes.l1, if_neg (by omega), w64 _ (by omega) (by omega)]
  | succ d ih =>
    intro j out hj ho hd hv H
    have hp := pow_pos C0 j
    have hq := ediv_nn (b := 256 ^ j) hw0 (Int.le_of_lt hp)
    have hle := ediv_le_self' (b := 256 ^ j) hw0
    have e1 : Int.tmod (w0 / 256 ^ j) 256 % 256 = w0 / 256 ^ j % 256 := by rw [Int.tmod_eq_emod_of_nonneg hq]; omega
    have e2 : IntKind.u64.wrap (Int.tdiv (w0 / 256 ^ j) 256) = w0 / 256 ^ (j + 1) := by
      rw [Int.tdiv_eq_ediv_of_nonneg hq, IntKind.wrap_u64, Int.pow_succ, ← Int.ediv_ediv_of_nonneg (Int.le_of_lt hp)]
      omega
    refine Evn.succ (fun k => ?_) (ih (j + 1) (out ++ [w0 / 256 ^ j % 256]) (by omega) (by simp; omega) (dg_append hd (dg_one (by omega) (by omega))) (by
      rw [vl_append, vl_one, hv, ho, Int.pow_add, Int.pow_succ]
      have a1 := Int.emod_add_mul_ediv w0 (256 ^ j)
      have a2 := Int.emod_add_mul_ediv (w0 / 256 ^ j) 256
      have a3 := Int.emod_add_mul_ediv w0 (256 ^ j * 256)
      rw [← Int.ediv_ediv_of_nonneg (Int.le_of_lt hp)] at a3
      generalize (256 : Int) ^ (8 * i) = P at *
      generalize w0 / 256 ^ j / 256 = q2 at *
      generalize w0 % (256 ^ j * 256) = m2 at *
      generalize w0 / 256 ^ j % 256 = s at *
      generalize w0 % 256 ^ j = m1 at *
      generalize w0 / 256 ^ j = q1 at *
      generalize (256 : Int) ^ j = p at *
      have : m2 = m1 + p * s := by grind
      rw [this]; grind) H)
    rw [chicoryref03_Bytes.l1, if_pos (by omega), if_pos (by omega), e1, e2, w64 _ (by omega) (by omega)]
    rfl
theorem bytes_loop (l : List Int) (h : dg 18446744073709551616 l) (hl : l.length ≤ 1099511627776) : ∀ (d i : Nat) (out : List Int), i + d = l.length → out.length = 8 * i → dg 256 out → vl 256 out = vl 18446744073709551616 (l.take i) →
    Evn (fun k => chicoryref03_Bytes.l0 k l out (i : Int)) (dgs 256 (vl 18446744073709551616 l)) := by
  intro d
  induction d with
  | zero =>
    intro i out hi ho hd hv
    obtain rfl : i = l.length := by omega
    rw [List.take_length] at hv
    refine Evn.succ (h := fun k => (chicoryref03_CutOwn.f k out).bind fun t242 => (some t242)) (fun k => by rw [chicoryref03_Bytes.l0, if_neg (by omega)]) ?_
    refine Evn.bind (rcutown_ev out (by omega)) (Evn.of fun _ => ?_)
    rw [cut_eq C2 hd hv]
  | succ d ih =>
    intro i out hi ho hd hv
    have hr := rd_bd h (by omega) i
    have k1 := bytes_inner l i (rd l (i : Int)) hr.1 hr.2 (vl 18446744073709551616 (l.take i)) (by omega) (dgs 256 (vl 18446744073709551616 l)) 8 0 out (by omega) (by omega) hd (by rw [hv]; simp) (fun o h1 h2 h3 => by
      refine Evn.congr (fun k => by rw [show (i : Int) + 1 = ((i + 1 : Nat) : Int) by omega]) (ih (i + 1) o (by omega) (by omega) h2 ?_)
      rw [h3, vl_take_succ, Int.pow_mul]; rfl)
    refine Evn.succ (fun k => ?_) k1
    rw [chicoryref03_Bytes.l0, if_pos (by omega), if_pos (by omega)]
    simp
theorem bytes_ev (l : List Int) (h : dg 18446744073709551616 l) (hl : l.length ≤ 1099511627776) : Evn (fun k => chicoryref03_Bytes.f k l) (dgs 256 (vl 18446744073709551616 l)) :=
  Evn.congr (fun _ => rfl) (bytes_loop l h hl l.length 0 [] (by omega) rfl dg_nil rfl)

theorem rat_nn (l : List Int) (h : dg 256 l) (i : Nat) : chicoryref03_at.f l (i : Int) = some (rd l (i : Int)) := by
  unfold chicoryref03_at.f
  have hr := rd_bd h C0 i
  by_cases hi : (i : Int) ≥ (l.length : Int)
  · rw [if_pos hi, rd_beyond l i (by omega)]
  · rw [if_neg hi, if_pos (by omega), if_pos (by omega), w64 _ (by omega) (by omega)]

theorem rcompare_loop (a b : List Int) (ha : dg 256 a) (hb : dg 256 b) : ∀ m : Nat, m ≤ 9223372036854775807 → vl 256 (a.drop m) = vl 256 (b.drop m) → Evn (fun k => chicoryref03_Compare.l0 k a b ((m : Int) - 1)) (cmpI (vl 256 a) (vl 256 b)) := by
  intro m
  induction m with
  | zero =>
    intro _ h
    refine Evn.succ (h := fun _ => some 0) (fun k => by rw [chicoryref03_Compare.l0, if_neg (by omega)]) (Evn.of fun _ => ?_)
    simp only [List.drop_zero] at h
    rw [h, cmpI_self]
  | succ m ih =>
    intro hm h
    have e1 := vl_drop (B := 256) a m
    have e2 := vl_drop (B := 256) b m
    have e0 : ((m + 1 : Nat) : Int) - 1 = (m : Int) := by omega
    by_cases he : rd a (m : Int) = rd b (m : Int)
    · refine Evn.succ (fun k => ?_) (ih (by omega) (by rw [e1, e2, he, h]))
      rw [chicoryref03_Compare.l0, if_pos (by omega), e0, rat_nn a ha, rat_nn b hb]
      simp only [Option.bind_some]
      rw [if_neg (by omega), if_neg (by omega), w64 _ (by omega) (by omega)]
    · rw [← vl_div ha C0] at e1
      rw [← vl_div hb C0] at e2
      rw [cmpI_div (pow_pos C0 m) e1 (by rw [e2, h]) he]
      refine Evn.succ (h := fun _ => some (cmpI (rd a (m : Int)) (rd b (m : Int)))) (fun k => ?_) (Evn.of fun _ => rfl)
      rw [chicoryref03_Compare.l0, if_pos (by omega), e0, rat_nn a ha, rat_nn b hb]
      simp only [Option.bind_some]
      unfold cmpI
      by_cases hlt : rd a (m : Int) < rd b (m : Int)
      · rw [if_pos hlt, if_pos hlt]
      · rw [if_neg hlt, if_neg hlt, if_pos (show rd a (m : Int) > rd b (m : Int) by omega), if_pos (by omega)]
theorem rcompare_ev (a b : List Int) (ha : dg 256 a) (hb : dg 256 b) (hal : a.length ≤ 1099511627776) (hbl : b.length ≤ 1099511627776) : Evn (fun k => chicoryref03_Compare.f k a b) (cmpI (vl 256 a) (vl 256 b)) := by
  refine Evn.congr (fun k => by unfold chicoryref03_Compare.f; rw [max_nat, w64 _ (by omega) (by omega)]) (rcompare_loop a b ha hb (max a.length b.length) (by omega) ?_)
  rw [List.drop_eq_nil_of_le (by omega), List.drop_eq_nil_of_le (by omega)]

theorem rbit_loop (i : Nat) : ∀ (d j : Nat) (x : Int), j + d = i % 8 → 0 ≤ x → x < 256 → Evn (fun k => chicoryref03_Bit.l0 k (i : Int) x (j : Int)) (x / 2 ^ d % 2) := by
  intro d
  induction d with
  | zero =>
    intro j x hj hx _
    have e2 := tmod_nat i 8
    rw [show ((8 : Nat) : Int) = 8 from rfl] at e2
    refine Evn.succ (h := fun _ => some (Int.tmod x 2)) (fun k => by rw [chicoryref03_Bit.l0, e2, if_neg (by omega)]) (Evn.of fun _ => ?_)
    rw [Int.tmod_eq_emod_of_nonneg hx]; simp
  | succ d ih =>
    intro j x hj hx hx1
    have e2 := tmod_nat i 8
    rw [show ((8 : Nat) : Int) = 8 from rfl] at e2
    have := ih (j + 1) (x / 2) (by omega) (by omega) (by omega)
    rw [Int.ediv_ediv_of_nonneg (by omega), show (2 : Int) * 2 ^ d = 2 ^ (d + 1) by rw [Int.pow_succ, Int.mul_comm]] at this
    refine Evn.succ (fun k => ?_) this
    rw [chicoryref03_Bit.l0, e2, if_pos (by omega), Int.tdiv_eq_ediv_of_nonneg hx, w64 _ (by omega) (by omega), w64 _ (by omega) (by omega)]
    rfl
theorem rbit_ev (l : List Int) (h : dg 256 l) (i : Int) (hi : i ≤ 9223372036854775807) : Evn (fun k => chicoryref03_Bit.f k l i) (bitv (vl 256 l) i) := by
  by_cases h0 : i < 0
  · refine Evn.of fun k => ?_
    unfold chicoryref03_Bit.f bitv; rw [if_pos h0, if_pos h0]
  · obtain ⟨j, rfl⟩ := Int.eq_ofNat_of_zero_le (show 0 ≤ i by omega)
    have e1 := tdiv_nat j 8
    rw [show ((8 : Nat) : Int) = 8 from rfl] at e1
    have hb := rd_bd h C0 (j / 8)
    have e := rbit_loop j (j % 8) 0 (rd l ((j / 8 : Nat) : Int)) (by omega) hb.1 hb.2
    rw [rd_vl h C0] at e
    have e3 := digit_bit (vl 256 l) 8 (j / 8) (j % 8) (by omega)
    rw [show 8 * (j / 8) + j % 8 = j by omega, show (2 : Int) ^ 8 = 256 from rfl] at e3
    rw [e3, ← bitv_nat] at e
    refine Evn.congr (fun k => ?_) e
    unfold chicoryref03_Bit.f
    rw [if_neg h0, e1, w64 _ (by omega) (by omega), rat_nn l h]
    simp only [Option.bind_some]
    rw [rd_vl h C0]; rfl

theorem bit_top {n : Int} {m : Nat} (h0 : 0 ≤ n) (h1 : n < 2 ^ (m + 1)) : (bitv n (m : Int) = 0 → n < 2 ^ m) ∧ (¬ bitv n (m : Int) = 0 → 2 ^ m ≤ n) := by
  rw [bitv_nat]
  have hp := two_pos m
  have h2 := Int.emod_add_mul_ediv n (2 ^ m)
  have h3 := Int.emod_lt_of_pos n hp
  have h4 := Int.emod_nonneg n (show (2 : Int) ^ m ≠ 0 by omega)
  have h5 : n / 2 ^ m < 2 := Int.ediv_lt_of_lt_mul hp (by rw [Int.pow_succ] at h1; omega)
  have h6 := ediv_nn (b := 2 ^ m) h0 (Int.le_of_lt hp)
  generalize n / 2 ^ m = q at *
  constructor
  · intro h
    have : q = 0 := by omega
    subst this; omega
  · intro h
    have : q = 1 := by omega
    subst this; omega
theorem rlen_loop (l : List Int) (h : dg 256 l) : ∀ m : Nat, m ≤ 4611686018427387904 → vl 256 l < 2 ^ m → Evn (fun k => chicoryref03_Len.l0 k l (m : Int)) (nbit (vl 256 l)) := by
  intro m
  have hn := vl_nonneg h C0
  induction m with
  | zero =>
    intro _ h1
    have hz : vl 256 l = 0 := by simp at h1; omega
    rw [hz]
    exact Evn.succ (h := fun _ => some 0) (fun k => by rw [chicoryref03_Len.l0, if_neg (by omega)]; rfl) (Evn.of fun _ => rfl)
  | succ m ih =>
    intro hm h1
    have e0 : wrap64 (((m + 1 : Nat) : Int) - 1) = (m : Int) := by rw [w64 _ (by omega) (by omega)]; omega
    obtain ⟨t0, t1⟩ := bit_top hn h1
    refine Evn.succ (h := fun k => (chicoryref03_Bit.f k l (m : Int)).bind fun t255 => (if t255 = 0 then (chicoryref03_Len.l0 k l (m : Int)) else (some ((m + 1 : Nat) : Int)))) (fun k => by rw [chicoryref03_Len.l0, if_pos (by omega), e0]) ?_
    refine Evn.bind (rbit_ev l h (m : Int) (by omega)) ?_
    by_cases hb : bitv (vl 256 l) (m : Int) = 0
    · exact Evn.congr (fun k => by rw [if_pos hb]) (ih (by omega) (t0 hb))
    · refine Evn.of fun k => ?_
      rw [if_neg hb, nbit_unique (t1 hb) h1]; rfl
theorem rlen_ev (l : List Int) (h : dg 256 l) (hl : l.length ≤ 1099511627776) : Evn (fun k => chicoryref03_Len.f k l) (nbit (vl 256 l)) := by
  refine Evn.congr (fun k => ?_) (rlen_loop l h (8 * l.length) (by omega) (by rw [Int.pow_mul]; exact vl_lt h C0))
  unfold chicoryref03_Len.f
  rw [w64 _ (by omega) (by omega)]; rfl
end Go.Proofs.Ytdaehflffecllaa.A
