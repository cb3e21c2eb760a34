/- What the reference's Double, Div and Shift come to. -/
import Derived.Test.YtdaehflffecllaaNx4
import Derived.Test.YtdaehflffecllaaNx5
import Derived.Test.YtdaehflffecllaaNx6
import Derived.Test.YtdaehflffecllaaA5
import Derived.Test.YtdaehflffecllaaA6
namespace Go.Proofs.Ytdaehflffecllaa.A
open Go.RowKit Go.Proofs.YtdaehflffecllaaW.PrintWords Go.Proofs.Ytdaehflffecllaa.N Go.Proofs.Ytdaehflffecllaa.T

theorem dbl_alg (p s q c x V1 V2 b : Int) (h : V1 + p * c = 2 * V2 + b) (e : s + 256 * q = 2 * x + c) : V1 + p * s + p * 256 * q = 2 * (V2 + p * x) + b := by grind
theorem dbl_go (b : List Int) (hb : dg 256 b) (i : Nat) (hi : i ≤ 1099511627776) (out : List Int) (hol : out.length = i) (c : Int) (hc : 0 ≤ c) (hc1 : c ≤ 1) (hgo : i < b.length ∨ 0 < c) (r : List Int)
    (H : Evn (fun k => chicoryref03_Double.l0 k b ((2 * rd b (i : Int) + c) / 256) (out ++ [(2 * rd b (i : Int) + c) % 256]) ((i + 1 : Nat) : Int)) r) :
    Evn (fun k => chicoryref03_Double.l0 k b c out (i : Int)) r := by
  have rb := rd_bd hb C0 i
  refine Evn.succ (fun k => ?_) H
  have e : ((chicoryref03_at.f b (i : Int)).bind fun t349 => (if out.length < 140737488355328 then (chicoryref03_Double.l0 k b (wrap64 (Int.tdiv (wrap64 ((wrap64 (2 * t349)) + c)) 256)) (out ++ [(Int.tmod (wrap64 ((wrap64 (2 * t349)) + c)) 256) % 256]) (wrap64 ((i : Int) + 1))) else (none))) = chicoryref03_Double.l0 k b ((2 * rd b (i : Int) + c) / 256) (out ++ [(2 * rd b (i : Int) + c) % 256]) ((i + 1 : Nat) : Int) := by
    rw [rat_nn b hb, bsome, if_pos (by omega), w64 (2 * rd b (i : Int)) (by omega) (by omega), w64 (2 * rd b (i : Int) + c) (by omega) (by omega), Int.tmod_eq_emod_of_nonneg (by omega), Int.tdiv_eq_ediv_of_nonneg (by omega), w64 _ (by omega) (by omega), w64 _ (by omega) (by omega), show (2 * rd b (i : Int) + c) % 256 % 256 = (2 * rd b (i : Int) + c) % 256 by omega]
    rfl
  rw [chicoryref03_Double.l0]
  by_cases hlt : (i : Int) < (b.length : Int)
  · rw [if_pos hlt]; exact e
  · rw [if_neg hlt, if_pos (show c > 0 by omega)]; exact e
theorem dbl_fin (b out : List Int) (i : Nat) (hi : b.length ≤ i) : Evn (fun k => chicoryref03_Double.l0 k b 0 out (i : Int)) out :=
  Evn.succ (h := fun _ => some out) (fun k => by rw [chicoryref03_Double.l0, if_neg (by omega), if_neg (by omega)]) (Evn.of fun _ => rfl)
theorem dbl_loop (b : List Int) (hb : dg 256 b) (hbl : b.length ≤ 1073741824) (bit : Int) : ∀ (d i : Nat) (out : List Int) (c : Int), i + d = b.length → out.length = i → dg 256 out → 0 ≤ c → c ≤ 1 → vl 256 out + 256 ^ i * c = 2 * vl 256 (b.take i) + bit →
    ∃ o : List Int, dg 256 o ∧ vl 256 o = 2 * vl 256 b + bit ∧ (o.length = b.length ∨ (o.length = b.length + 1 ∧ 256 ^ b.length ≤ 2 * vl 256 b + bit)) ∧ Evn (fun k => chicoryref03_Double.l0 k b c out (i : Int)) o := by
  intro d
  induction d with
  | zero =>
    intro i out c hi ho hd hc hc1 h
    obtain rfl : i = b.length := by omega
    rw [List.take_length] at h
    by_cases hz : c = 0
    · subst hz
      exact ⟨out, hd, by omega, .inl ho, dbl_fin b out _ (Nat.le_refl _)⟩
    · obtain rfl : c = 1 := by omega
      have e1 := rd_beyond b b.length (Nat.le_refl _)
      have hov := vl_nonneg hd C0
      refine ⟨out ++ [1], dg_append hd (dg_one (by omega) (by omega)), by rw [vl_append, vl_one, ho]; exact h, .inr ⟨by simp [ho], by omega⟩, ?_⟩
      refine dbl_go b hb b.length (by omega) out ho 1 (by omega) (by omega) (.inr (by omega)) _ ?_
      rw [e1]
      exact dbl_fin b _ _ (by omega)
  | succ d ih =>
    intro i out c hi ho hd hc hc1 h
    have rb := rd_bd hb C0 i
    have e := Int.emod_add_mul_ediv (2 * rd b (i : Int) + c) 256
    obtain ⟨o, h1, h2, h3, h4⟩ := ih (i + 1) (out ++ [(2 * rd b (i : Int) + c) % 256]) ((2 * rd b (i : Int) + c) / 256) (by omega) (by simp; omega) (dg_append hd (dg_one (by omega) (by omega))) (by omega) (by omega) (by
      rw [vl_append, vl_one, ho, vl_take_succ, Int.pow_succ]
      exact dbl_alg _ _ _ c _ _ _ _ h e)
    exact ⟨o, h1, h2, h3, dbl_go b hb i (by omega) out ho c hc hc1 (.inl (by omega)) o h4⟩
theorem dbl_ev (b : List Int) (hb : dg 256 b) (hbl : b.length ≤ 1073741824) (bit : Int) (h0 : 0 ≤ bit) (h1 : bit ≤ 1) (M : Nat) (hM : 2 * vl 256 b + bit < 256 ^ M) (hbM : b.length ≤ M) :
    ∃ o : List Int, dg 256 o ∧ vl 256 o = 2 * vl 256 b + bit ∧ o.length ≤ M ∧ Evn (fun k => chicoryref03_Double.f k b bit) o := by
  obtain ⟨o, h2, h3, h4, h5⟩ := dbl_loop b hb hbl bit b.length 0 [] bit (by omega) rfl dg_nil h0 h1 (by simp [vl])
  refine ⟨o, h2, h3, ?_, Evn.congr (fun _ => rfl) h5⟩
  rcases h4 with h4 | ⟨h4, h6⟩
  · omega
  · by_cases hc : M ≤ b.length
    · have := pow_le C0 hc; omega
    · omega

theorem rdiv_loop (a b : List Int) (ha : dg 256 a) (hb : dg 256 b) (hal : a.length ≤ 67108864) (hbl : b.length ≤ 67108864) (hd : 0 < vl 256 b) : ∀ (m : Nat) (q r : List Int), m ≤ 4611686018427387904 → dg 256 q → dg 256 r → q.length ≤ a.length → r.length ≤ b.length + 1 →
    vl 256 q = vl 256 a / 2 ^ m / vl 256 b → vl 256 r = vl 256 a / 2 ^ m % vl 256 b → Evn (fun k => chicoryref03_Div.l0 k a b q r ((m : Int) - 1)) (dgs 256 (vl 256 a / vl 256 b), dgs 256 (vl 256 a % vl 256 b)) := by
  intro m
  have hn := vl_nonneg ha C0
  have hbB := vl_lt hb C0
  have haB := vl_lt ha C0
  induction m with
  | zero =>
    intro q r _ hq hr hql hrl e1 e2
    refine Evn.succ (h := fun k => (chicoryref03_Cut.f k q).bind fun t358 => ((chicoryref03_Cut.f k r).bind fun t361 => (some (t358, t361)))) (fun k => by rw [chicoryref03_Div.l0, if_neg (by omega)]) ?_
    refine Evn.bind (rcut_ev q (by omega)) (Evn.bind (rcut_ev r (by omega)) (Evn.of fun _ => ?_))
    rw [cut_eq C2 hq e1, cut_eq C2 hr e2]
    simp
  | succ m ih =>
    intro q r hm hq hr hql hrl e1 e2
    obtain ⟨f1, f2, f3, f4⟩ := div_facts (n := vl 256 a) (m := m + 1) hd hn
    have hst := half_step (vl 256 a) m
    have hbt := bitv_bd (vl 256 a) (m : Int)
    have em : ((m + 1 : Nat) : Int) - 1 = (m : Int) := by omega
    obtain ⟨o, o1, o2, o3, o4⟩ := dbl_ev r hr (by omega) (bitv (vl 256 a) (m : Int)) hbt.1 hbt.2 (b.length + 1) (by rw [e2]; have h256 := Int.pow_succ (256 : Int) b.length; omega) (by omega)
    rw [e2] at o2
    have hC := rcompare_ev o b o1 hb (by omega) (by omega)
    rw [o2] at hC
    have hle : vl 256 a / 2 ^ m ≤ vl 256 a := ediv_le_self' hn
    have hle2 : vl 256 a / 2 ^ m / vl 256 b ≤ vl 256 a / 2 ^ m := ediv_le_self' (ediv_nn hn (Int.le_of_lt (two_pos m)))
    refine Evn.succ (fun k => by rw [chicoryref03_Div.l0, if_pos (by omega), em]) (Evn.bind (rbit_ev a ha (m : Int) (by omega)) (Evn.bind o4 (Evn.bind hC ?_)))
    by_cases hlt : 2 * (vl 256 a / 2 ^ (m + 1) % vl 256 b) + bitv (vl 256 a) (m : Int) < vl 256 b
    · obtain ⟨u1, u2⟩ := div_up hst (by omega) hlt
      obtain ⟨p, p1, p2, p3, p4⟩ := dbl_ev q hq (by omega) 0 (by omega) (by omega) a.length (by rw [e1]; omega) hql
      rw [e1] at p2
      refine Evn.congr (fun k => by rw [if_neg (show ¬ cmpI (2 * (vl 256 a / 2 ^ (m + 1) % vl 256 b) + bitv (vl 256 a) (m : Int)) (vl 256 b) ≥ 0 from fun e => by have := cmpI_lt.2 hlt; omega)]) (Evn.bind p4 ?_)
      refine Evn.congr (fun k => by rw [w64 _ (by omega) (by omega)]) (ih p o (by omega) p1 o1 p3 o3 (by rw [p2, u1]; omega) (by rw [o2, u2]))
    · obtain ⟨u1, u2⟩ := div_up1 (d := vl 256 b) hst (by omega) (by omega)
      have hS := rsub_ev o b o1 hb (by omega) (by omega)
      rw [o2] at hS
      have g0 : 0 ≤ 2 * (vl 256 a / 2 ^ (m + 1) % vl 256 b) + bitv (vl 256 a) (m : Int) - vl 256 b := by omega
      obtain ⟨p, p1, p2, p3, p4⟩ := dbl_ev q hq (by omega) 1 (by omega) (by omega) a.length (by rw [e1]; omega) hql
      rw [e1] at p2
      refine Evn.congr (fun k => by rw [if_pos (show cmpI (2 * (vl 256 a / 2 ^ (m + 1) % vl 256 b) + bitv (vl 256 a) (m : Int)) (vl 256 b) ≥ 0 from by
        rcases Int.lt_or_le (cmpI (2 * (vl 256 a / 2 ^ (m + 1) % vl 256 b) + bitv (vl 256 a) (m : Int)) (vl 256 b)) 0 with h | h
        · exact absurd (cmpI_lt.1 h) hlt
        · exact h)]) (Evn.bind hS (Evn.bind p4 ?_))
      refine Evn.congr (fun k => by rw [w64 _ (by omega) (by omega)]) (ih p _ (by omega) p1 (dgs_dg C2 _ g0) p3 ?_ (by rw [p2, u1]) (by rw [vl_dgs C2 _ g0, u2]))
      have := sb_len' g0 b.length (by omega)
      omega
theorem rdiv_ev (a b : List Int) (ha : dg 256 a) (hb : dg 256 b) (hal : a.length ≤ 67108864) (hbl : b.length ≤ 67108864) (hd : 0 < vl 256 b) : Evn (fun k => chicoryref03_Div.f k a b) (dgs 256 (vl 256 a / vl 256 b), dgs 256 (vl 256 a % vl 256 b)) := by
  have hn := vl_nonneg ha C0
  have hnb := nbit_nonneg (vl 256 a)
  have hlt := nbit_lt hn
  have hL : nbit (vl 256 a) ≤ 8 * a.length := by
    have := nbit_le (n := vl 256 a) (m := 8 * a.length) (by rw [Int.pow_mul]; exact vl_lt ha C0)
    omega
  have e0 : vl 256 a / 2 ^ (nbit (vl 256 a)).toNat = 0 := Int.ediv_eq_zero_of_lt hn hlt
  have := rdiv_loop a b ha hb hal hbl hd (nbit (vl 256 a)).toNat [] [] (by omega) dg_nil dg_nil (by simp) (by simp) (by rw [e0]; simp [vl]) (by rw [e0]; simp [vl])
  refine Evn.congr (fun k => by rw [chicoryref03_Div.f]) (Evn.bind (rlen_ev a ha (by omega)) (Evn.congr (fun k => ?_) this))
  rw [w64 _ (by omega) (by omega), Int.toNat_of_nonneg hnb]

/-! ### Shift -/
theorem shv_bit (n b : Int) (t : Nat) : bitv (shv n b) (t : Int) = bitv n ((t : Int) - b) := by
  rw [bitv_nat]
  unfold shv bitv
  by_cases hb : 0 ≤ b
  · obtain ⟨c, rfl⟩ := Int.eq_ofNat_of_zero_le hb
    rw [if_pos hb, Int.toNat_natCast]
    by_cases hlt : (t : Int) - (c : Int) < 0
    · rw [if_pos hlt]
      obtain ⟨d, rfl⟩ : ∃ d, c = t + (d + 1) := ⟨c - t - 1, by omega⟩
      rw [Int.pow_add, ← Int.mul_assoc, Int.mul_right_comm, Int.mul_ediv_cancel _ (by have := two_pos t; omega), Int.pow_succ, ← Int.mul_assoc, Int.mul_emod_left]
    · rw [if_neg hlt]
      obtain ⟨d, rfl⟩ : ∃ d, t = d + c := ⟨t - c, by omega⟩
      rw [show (((d + c : Nat) : Int) - (c : Int)).toNat = d by omega, Int.pow_add, Int.mul_ediv_mul_of_pos_left _ _ (two_pos c)]
  · rw [if_neg hb, if_neg (by omega), Int.ediv_ediv_of_nonneg (Int.le_of_lt (two_pos _)), ← Int.pow_add]
    congr 3; omega
theorem bit_in (R : Int) (s j : Nat) : 2 * (R / 2 ^ (s + 1) % 2 ^ j) + R / 2 ^ s % 2 = R / 2 ^ s % 2 ^ (j + 1) := by
  have e : R / 2 ^ (s + 1) = R / 2 ^ s / 2 := by rw [Int.ediv_ediv_of_nonneg (Int.le_of_lt (two_pos s)), Int.pow_succ]
  rw [e, Int.pow_succ, Int.mul_comm (2 ^ j) 2, mod_succ (R / 2 ^ s) (2 ^ j) 2 (by omega)]
  omega
theorem rshift_inner (b : List Int) (hb : dg 256 b) (bl : Int) (hb0 : -1048576 ≤ bl) (hb1 : bl ≤ 1048576) (n : Int) (i : Nat) (hi : i ≤ 1099511627776) (out : List Int) (hol : out.length ≤ 1099511627776) (r : List Int)
    (H : Evn (fun k => chicoryref03_Shift.l0 k b bl (out ++ [shv (vl 256 b) bl / 2 ^ i % 256]) n ((i : Int) + 8)) r) :
    ∀ j : Nat, j ≤ 8 → Evn (fun k => chicoryref03_Shift.l1 k b bl out n (i : Int) (shv (vl 256 b) bl / 2 ^ (i + j) % 2 ^ (8 - j)) ((j : Int) - 1)) r := by
  intro j
  induction j with
  | zero =>
    intro _
    refine Evn.succ (fun k => ?_) H
    have : shv (vl 256 b) bl / 2 ^ (i + 0) % 2 ^ (8 - 0) % 256 = shv (vl 256 b) bl / 2 ^ i % 256 := by
      rw [show (2 : Int) ^ (8 - 0) = 256 from rfl, Nat.add_zero]; omega
    rw [chicoryref03_Shift.l1, if_neg (by omega), if_pos (by omega), w64 ((i : Int) + 8) (by omega) (by omega), this]
  | succ j ih =>
    intro hj
    have em : ((j + 1 : Nat) : Int) - 1 = (j : Int) := by omega
    have hin := bit_in (shv (vl 256 b) bl) (i + j) (8 - (j + 1))
    rw [show 8 - (j + 1) + 1 = 8 - j by omega] at hin
    have hx0 := Int.emod_nonneg (shv (vl 256 b) bl / 2 ^ (i + j + 1)) (show (2 : Int) ^ (8 - (j + 1)) ≠ 0 by have := two_pos (8 - (j + 1)); omega)
    have hx1 := Int.emod_lt_of_pos (shv (vl 256 b) bl / 2 ^ (i + j + 1)) (two_pos (8 - (j + 1)))
    have hx2 : (2 : Int) ^ (8 - (j + 1)) ≤ 2 ^ 8 := pow_le (by omega) (by omega)
    rw [show (2 : Int) ^ 8 = 256 from rfl] at hx2
    have hbit := rbit_ev b hb ((i : Int) + (j : Int) - bl) (by omega)
    have hsb := shv_bit (vl 256 b) bl (i + j)
    rw [show ((i + j : Nat) : Int) - bl = (i : Int) + (j : Int) - bl by omega] at hsb
    rw [← hsb, bitv_nat] at hbit
    refine Evn.succ (h := fun k => (chicoryref03_Bit.f k b ((i : Int) + (j : Int) - bl)).bind fun t480 => (chicoryref03_Shift.l1 k b bl out n (i : Int) (wrap64 ((wrap64 (2 * (shv (vl 256 b) bl / 2 ^ (i + (j + 1)) % 2 ^ (8 - (j + 1))))) + t480)) (wrap64 ((j : Int) - 1)))) (fun k => by
      rw [chicoryref03_Shift.l1, em, if_pos (by omega), w64 ((i : Int) + (j : Int)) (by omega) (by omega), w64 ((i : Int) + (j : Int) - bl) (by omega) (by omega)]) (Evn.bind hbit (Evn.congr (fun k => ?_) (ih (by omega))))
    rw [show i + (j + 1) = i + j + 1 by omega, w64 (2 * (shv (vl 256 b) bl / 2 ^ (i + j + 1) % 2 ^ (8 - (j + 1)))) (by omega) (by omega), w64 _ (by omega) (by omega), w64 _ (by omega) (by omega), hin]
theorem shv_lt2 {n : Int} (b : Int) (hn : 0 ≤ n) (t : Nat) (h : nbit n + b ≤ t) : shv n b < 2 ^ t := by
  have hl := nbit_lt hn
  have h0 := nbit_nonneg n
  unfold shv
  by_cases hb : 0 ≤ b
  · rw [if_pos hb]
    have a1 := Int.mul_lt_mul_of_pos_right hl (two_pos b.toNat)
    rw [← Int.pow_add] at a1
    have : (2 : Int) ^ ((nbit n).toNat + b.toNat) ≤ 2 ^ t := pow_le (by omega) (by omega)
    omega
  · rw [if_neg hb]
    refine Int.ediv_lt_of_lt_mul (two_pos _) ?_
    rw [← Int.pow_add]
    have : (2 : Int) ^ (nbit n).toNat ≤ 2 ^ (t + (-b).toNat) := pow_le (by omega) (by omega)
    omega
theorem rshift_loop (b : List Int) (hb : dg 256 b) (bl : Int) (hb0 : -1048576 ≤ bl) (hb1 : bl ≤ 1048576) (hbl : b.length ≤ 1073741824) : ∀ (d t : Nat) (out : List Int), nbit (vl 256 b) + bl ≤ 8 * (t : Int) + 8 * d → 8 * (t : Int) < nbit (vl 256 b) + bl + 8 ∨ t = 0 → out.length = t → dg 256 out → vl 256 out = shv (vl 256 b) bl % 256 ^ t →
    Evn (fun k => chicoryref03_Shift.l0 k b bl out (nbit (vl 256 b) + bl) ((8 * t : Nat) : Int)) (dgs 256 (shv (vl 256 b) bl)) := by
  have hn := vl_nonneg hb C0
  have hL : nbit (vl 256 b) ≤ 8 * b.length := by
    have := nbit_le (n := vl 256 b) (m := 8 * b.length) (by rw [Int.pow_mul]; exact vl_lt hb C0)
    omega
  have hnb := nbit_nonneg (vl 256 b)
  intro d
  induction d with
  | zero =>
    intro t out hi hi2 ho hd hv
    have hlt : shv (vl 256 b) bl < 256 ^ t := by
      have := shv_lt2 bl hn (8 * t) (by omega)
      rwa [Int.pow_mul] at this
    rw [Int.emod_eq_of_lt (shv_nonneg hn bl) hlt] at hv
    refine Evn.succ (h := fun k => (chicoryref03_Cut.f k out).bind fun t477 => (some t477)) (fun k => by rw [chicoryref03_Shift.l0, if_neg (by omega)]) ?_
    refine Evn.bind (rcut_ev out (by omega)) (Evn.of fun _ => ?_)
    rw [cut_eq C2 hd hv]
  | succ d ih =>
    intro t out hi hi2 ho hd hv
    by_cases hlt : ((8 * t : Nat) : Int) < nbit (vl 256 b) + bl
    · have hp : (2 : Int) ^ (8 * t) = 256 ^ t := by rw [Int.pow_mul]; rfl
      have k1 := ih (t + 1) (out ++ [shv (vl 256 b) bl / 2 ^ (8 * t) % 256]) (by omega) (by omega) (by simp [ho]) (dg_append hd (dg_one (by omega) (by omega))) (by
        rw [vl_append, vl_one, ho, hv, hp, Int.pow_succ, mod_succ _ _ _ (pow_pos C0 t)])
      have k2 := rshift_inner b hb bl hb0 hb1 (nbit (vl 256 b) + bl) (8 * t) (by omega) out (by omega) (dgs 256 (shv (vl 256 b) bl)) (Evn.congr (fun k => by rw [show ((8 * t : Nat) : Int) + 8 = ((8 * (t + 1) : Nat) : Int) by omega]) k1) 8 (by omega)
      refine Evn.succ (fun k => ?_) k2
      rw [chicoryref03_Shift.l0, if_pos hlt]
      simp
    · have hlt2 : shv (vl 256 b) bl < 256 ^ t := by
        have := shv_lt2 bl hn (8 * t) (by omega)
        rwa [Int.pow_mul] at this
      rw [Int.emod_eq_of_lt (shv_nonneg hn bl) hlt2] at hv
      refine Evn.succ (h := fun k => (chicoryref03_Cut.f k out).bind fun t477 => (some t477)) (fun k => by rw [chicoryref03_Shift.l0, if_neg hlt]) ?_
      refine Evn.bind (rcut_ev out (by omega)) (Evn.of fun _ => ?_)
      rw [cut_eq C2 hd hv]
theorem rshift_ev (b : List Int) (hb : dg 256 b) (bl : Int) (hb0 : -1048576 ≤ bl) (hb1 : bl ≤ 1048576) (hbl : b.length ≤ 1073741824) : Evn (fun k => chicoryref03_Shift.f k b bl) (dgs 256 (shv (vl 256 b) bl)) := by
  have hnb := nbit_nonneg (vl 256 b)
  have hL : nbit (vl 256 b) ≤ 8 * b.length := by
    have := nbit_le (n := vl 256 b) (m := 8 * b.length) (by rw [Int.pow_mul]; exact vl_lt hb C0)
    omega
  have := rshift_loop b hb bl hb0 hb1 hbl (nbit (vl 256 b) + bl).toNat 0 [] (by omega) (.inr rfl) rfl dg_nil (by simp [vl])
  refine Evn.congr (fun k => by rw [chicoryref03_Shift.f]) (Evn.bind (rlen_ev b hb (by omega)) (Evn.congr (fun k => ?_) this))
  rw [w64 _ (by omega) (by omega)]; rfl
end Go.Proofs.Ytdaehflffecllaa.A
