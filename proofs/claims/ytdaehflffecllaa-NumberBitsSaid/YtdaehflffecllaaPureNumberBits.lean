/- The law NumberBits, as a statement of numbers and lists: true at every input. -/
import Derived.Test.YtdaehflffecllaaNlNumberBits
import Derived.Test.YtdaehflffecllaaNx1
import Derived.Test.YtdaehflffecllaaNx2
import Derived.Test.YtdaehflffecllaaA4
import Derived.Test.YtdaehflffecllaaA6
namespace Go.Proofs.Ytdaehflffecllaa.Pure
open Go.RowKit Go.Proofs.Ytdaehflffecllaa.N Go.Proofs.YtdaehflffecllaaW.PrintWords Go.Proofs.Ytdaehflffecllaa.T Go.Proofs.Ytdaehflffecllaa.A

theorem words_same (l : List Int) (h : l.length ≤ 1073741824) : Evn (fun k => chicorylaw03_Words.f k l l) true := by
  have := words_ev l l (by omega)
  rwa [decide_eq_true rfl] at this
theorem shv_up (n : Int) (p : Nat) : shv n (p : Int) = n * 2 ^ p := by unfold shv; rw [if_pos (by omega), Int.toNat_natCast]
theorem shv_down (n : Int) (p : Nat) : shv n (-(p : Int)) = n / 2 ^ p := by
  unfold shv
  by_cases h : p = 0
  · subst h; simp
  · rw [if_neg (by omega), show (- -(p : Int)).toNat = p by omega]
theorem bitv_len {n : Int} (h : 0 ≤ n) : bitv n (nbit n) = 0 := by
  have h1 := nbit_lt h
  have h2 := nbit_nonneg n
  unfold bitv
  rw [if_neg (by omega), Int.ediv_eq_zero_of_lt h h1]; rfl
theorem bitv_top {n : Int} (h : 0 < n) : bitv n (nbit n - 1) = 1 := by
  have h1 := nbit_lt (Int.le_of_lt h)
  have h2 := nbit_pos h
  have h3 := nbit_ge h
  obtain ⟨m, hm⟩ : ∃ m : Nat, nbit n = (m : Int) + 1 := ⟨(nbit n - 1).toNat, by omega⟩
  rw [hm] at h1 h3 ⊢
  rw [show ((m : Int) + 1).toNat = m + 1 by omega] at h1 h3
  rw [show (m : Int) + 1 - 1 = (m : Int) by omega, bitv_nat]
  rw [show m + 1 - 1 = m by omega] at h3
  have hp := two_pos m
  have e : n / 2 ^ m = 1 := div_of (r := n - 2 ^ m) (by omega) (by omega) (by rw [Int.pow_succ] at h1; omega)
  rw [e]; rfl

theorem bits_loop (l : List Int) (h : dg 18446744073709551616 l) (hl : l.length ≤ 20) (p q : Int) (hJ : Evn (fun k => chicorylaw03_NumberBits.j2 k l false p q) true) :
    ∀ m : Nat, (m : Int) ≤ nbit (vl 18446744073709551616 l) → Evn (fun k => chicorylaw03_NumberBits.l0 k l (dgs 18446744073709551616 (vl 18446744073709551616 l / 2 ^ m)) ((m : Int) - 1) p q) true := by
  have n0 := vl_nonneg h B0
  have hlt := vl_lt h B0
  have p20 := pow_le B0 hl
  have hnb : nbit (vl 18446744073709551616 l) ≤ 1280 := by
    have := nbit_le (n := vl 18446744073709551616 l) (m := 64 * 20) (by rw [Int.pow_mul]; exact Int.lt_of_lt_of_le hlt p20)
    omega
  have len21 : ∀ x : Int, 0 ≤ x → x < 18446744073709551616 ^ 21 → (dgs 18446744073709551616 x).length ≤ 21 := fun x hx h => ws_len x hx 21 h
  have hp := pow_pos B0 20
  have hp21 : (18446744073709551616 : Int) ^ 21 = 18446744073709551616 ^ 20 * 18446744073709551616 := Int.pow_succ ..
  intro m
  induction m with
  | zero =>
    intro _
    have hs : (dgs 18446744073709551616 (vl 18446744073709551616 l)).length ≤ 21 := len21 _ n0 (by omega)
    have e1 := compare_ev (dgs 18446744073709551616 (vl 18446744073709551616 l)) l (dgs_dg B2 _ n0) h (by omega) (by omega)
    rw [vl_dgs B2 _ n0, cmpI_self] at e1
    have e2 := len_ev l h (by omega)
    have b0 : number_Bit.f l (nbit (vl 18446744073709551616 l)) = some 0 := by rw [bit_ev l h _ (by omega), bitv_len n0]
    rw [show vl 18446744073709551616 l / 2 ^ 0 = vl 18446744073709551616 l by simp]
    refine Evn.succ (fun k => by rw [chicorylaw03_NumberBits.l0, if_neg (by omega)]) (Evn.bind e1 ?_)
    refine Evn.congr (fun k => by rw [if_pos rfl]) (Evn.bind e2 ?_)
    refine Evn.congr (fun k => by rw [b0, bsome, if_pos rfl]) (Evn.bind e2 ?_)
    by_cases hz : vl 18446744073709551616 l = 0
    · refine Evn.congr (fun k => ?_) hJ
      rw [hz, nbit_zero, if_neg (by omega)]
    · have hb := nbit_pos (n := vl 18446744073709551616 l) (by omega)
      have b1 : number_Bit.f l (nbit (vl 18446744073709551616 l) - 1) = some 1 := by rw [bit_ev l h _ (by omega), bitv_top (by omega)]
      refine Evn.congr (fun k => by rw [if_pos hb]) (Evn.bind e2 ?_)
      refine Evn.congr (fun k => ?_) hJ
      rw [w64 (nbit (vl 18446744073709551616 l) - 1) (by omega) (by omega), b1, bsome]; rfl
  | succ m ih =>
    intro hm
    have hx0 : 0 ≤ vl 18446744073709551616 l / 2 ^ (m + 1) := ediv_nn n0 (Int.le_of_lt (two_pos _))
    have hx1 : vl 18446744073709551616 l / 2 ^ (m + 1) ≤ vl 18446744073709551616 l := ediv_le_self' n0
    have hstep := half_step (vl 18446744073709551616 l) m
    have hbb := bitv_bd (vl 18446744073709551616 l) (m : Int)
    have e1 := add_ws _ _ hx0 hx0 21 (by omega) (show vl 18446744073709551616 l / 2 ^ (m + 1) < 18446744073709551616 ^ 21 by omega) (show vl 18446744073709551616 l / 2 ^ (m + 1) < 18446744073709551616 ^ 21 by omega)
    have y0 : 0 ≤ vl 18446744073709551616 l / 2 ^ (m + 1) + vl 18446744073709551616 l / 2 ^ (m + 1) := by omega
    have e2 := add_ev (dgs 18446744073709551616 (vl 18446744073709551616 l / 2 ^ (m + 1) + vl 18446744073709551616 l / 2 ^ (m + 1))) [bitv (vl 18446744073709551616 l) (m : Int)] (dgs_dg B2 _ y0) (dg_one (by omega) (by omega)) (by have := len21 _ y0 (by omega); omega) (by simp)
    rw [vl_dgs B2 _ y0, vl_one, show vl 18446744073709551616 l / 2 ^ (m + 1) + vl 18446744073709551616 l / 2 ^ (m + 1) + bitv (vl 18446744073709551616 l) (m : Int) = vl 18446744073709551616 l / 2 ^ m by omega] at e2
    have b0 : number_Bit.f l (m : Int) = some (bitv (vl 18446744073709551616 l) (m : Int)) := bit_ev l h _ (by omega)
    refine Evn.succ (fun k => by rw [chicorylaw03_NumberBits.l0, if_pos (by omega)]) (Evn.bind e1 ?_)
    refine Evn.congr (fun k => by rw [show ((m + 1 : Nat) : Int) - 1 = (m : Int) by omega, b0, bsome, wrap_id _ (by omega) (by omega)]) (Evn.bind e2 ?_)
    refine Evn.congr (fun k => ?_) (ih (by omega))
    rw [w64 ((m : Int) - 1) (by omega) (by omega)]

theorem bits_j2 (l : List Int) (h : dg 18446744073709551616 l) (hl : l.length ≤ 20) (p q : Nat) (hp : p ≤ 500) (hq : q ≤ 500) : Evn (fun k => chicorylaw03_NumberBits.j2 k l false (p : Int) (q : Int)) true := by
  have n0 := vl_nonneg h B0
  have hlt := vl_lt h B0
  have p20 := pow_le B0 hl
  have up : ∀ c : Nat, c ≤ 1000 → (dgs 18446744073709551616 (vl 18446744073709551616 l * 2 ^ c)).length ≤ 40 := fun c hc => by
    have h1 := shv_lt (n := vl 18446744073709551616 l) (w := ((c / 64 : Nat) : Int)) 20 (c % 64) (by omega) n0 (by omega) 40 (by omega)
    rw [show 64 * ((c / 64 : Nat) : Int) + ((c % 64 : Nat) : Int) = (c : Int) by omega, shv_up] at h1
    exact ws_len _ (Int.mul_nonneg n0 (Int.le_of_lt (two_pos c))) 40 h1
  have dn : ∀ c : Nat, (dgs 18446744073709551616 (vl 18446744073709551616 l / 2 ^ c)).length ≤ 20 := fun c => by
    have h1 : vl 18446744073709551616 l / 2 ^ c ≤ vl 18446744073709551616 l := ediv_le_self' n0
    exact ws_len _ (ediv_nn n0 (Int.le_of_lt (two_pos c))) 20 (by omega)
  have U : ∀ c : Nat, 0 ≤ vl 18446744073709551616 l * 2 ^ c := fun c => Int.mul_nonneg n0 (Int.le_of_lt (two_pos c))
  have D : ∀ c : Nat, 0 ≤ vl 18446744073709551616 l / 2 ^ c := fun c => ediv_nn n0 (Int.le_of_lt (two_pos c))
  have e1 := shift_ev l h (by omega) (p : Int)
  have e2 := shift_ev (dgs 18446744073709551616 (vl 18446744073709551616 l * 2 ^ p)) (dgs_dg B2 _ (U p)) (by have := up p (by omega); omega) (q : Int)
  have e3 := shift_ev l h (by omega) ((p + q : Nat) : Int)
  have e4 := shift_ev l h (by omega) (-(p : Int))
  have e5 := shift_ev (dgs 18446744073709551616 (vl 18446744073709551616 l / 2 ^ p)) (dgs_dg B2 _ (D p)) (by have := dn p; omega) (-(q : Int))
  have e6 := shift_ev l h (by omega) (-((p + q : Nat) : Int))
  unfold shiftR at e1 e2 e3 e4 e5 e6
  rw [if_neg (by omega)] at e1 e2 e3 e4 e5 e6
  rw [vl_dgs B2 _ (U p)] at e2
  rw [vl_dgs B2 _ (D p)] at e5
  rw [shv_up] at e1 e2 e3
  rw [shv_down] at e4 e5 e6
  rw [Int.mul_assoc, ← Int.pow_add] at e2
  rw [Int.ediv_ediv_of_nonneg (Int.le_of_lt (two_pos p)), ← Int.pow_add] at e5
  have c3 : wrap64 ((p : Int) + (q : Int)) = ((p + q : Nat) : Int) := by rw [w64 _ (by omega) (by omega)]; omega
  have c4 : wrap64 (-(p : Int)) = -(p : Int) := w64 _ (by omega) (by omega)
  have c5 : wrap64 (-(q : Int)) = -(q : Int) := w64 _ (by omega) (by omega)
  have c6 : wrap64 (-(p : Int) - (q : Int)) = -((p + q : Nat) : Int) := by rw [w64 _ (by omega) (by omega)]; omega
  refine Evn.succ (fun k => by rw [chicorylaw03_NumberBits.j2, if_neg (by decide), c3, c4, c5, c6]) (Evn.bind e1 (Evn.bind e2 (Evn.bind e3 (Evn.bind e4 (Evn.bind e5 (Evn.bind e6 ?_))))))
  refine Evn.congr (fun k => by rw [if_pos rfl, if_pos rfl, if_pos rfl, if_pos rfl, if_pos rfl, if_pos rfl]) (Evn.bind (words_same (dgs 18446744073709551616 (vl 18446744073709551616 l * 2 ^ (p + q))) (by have := up (p + q) (by omega); omega)) ?_)
  refine Evn.congr (fun k => by rw [if_pos rfl]) (Evn.bind (words_same (dgs 18446744073709551616 (vl 18446744073709551616 l / 2 ^ (p + q))) (by have := dn (p + q); omega)) ?_)
  exact Evn.congr (fun k => by rw [if_pos rfl]) awake_some

theorem NumberBits (l0 : List Int) (a b : Int) (hw0 : ∀ x ∈ l0, (Lit.int .u64 x).wf = true) : ∃ k, chicorylaw03_NumberBits.f k l0 a b = some true := by
  have d0 := wd_of hw0
  refine Evn.get (?_ : Evn (fun k => chicorylaw03_NumberBits.f k l0 a b) true)
  have hA : Evn (fun k => chicorylaw03_NumberBits.j0 k l0 true a b) true := Evn.succ (fun k => by rw [chicorylaw03_NumberBits.j0, if_pos rfl]) awake_some
  by_cases h0 : l0.length ≤ 20
  · by_cases ha : 0 ≤ a ∧ a ≤ 500
    · by_cases hb : 0 ≤ b ∧ b ≤ 500
      · have n0 := vl_nonneg d0 B0
        have hn := nbit_nonneg (vl 18446744073709551616 l0)
        have hlt := nbit_lt n0
        have hnb : nbit (vl 18446744073709551616 l0) ≤ 1280 := by
          have := nbit_le (n := vl 18446744073709551616 l0) (m := 64 * 20) (by rw [Int.pow_mul]; exact Int.lt_of_lt_of_le (vl_lt d0 B0) (pow_le B0 h0))
          omega
        obtain ⟨p, rfl⟩ : ∃ p : Nat, a = (p : Int) := ⟨a.toNat, by omega⟩
        obtain ⟨q, rfl⟩ : ∃ q : Nat, b = (q : Int) := ⟨b.toNat, by omega⟩
        have hl := bits_loop l0 d0 h0 _ _ (bits_j2 l0 d0 h0 p q (by omega) (by omega)) (nbit (vl 18446744073709551616 l0)).toNat (by omega)
        rw [Int.ediv_eq_zero_of_lt n0 hlt, dgs_zero, show (((nbit (vl 18446744073709551616 l0)).toNat : Nat) : Int) = nbit (vl 18446744073709551616 l0) by omega] at hl
        have hJ : Evn (fun k => chicorylaw03_NumberBits.j0 k l0 false (p : Int) (q : Int)) true := by
          refine Evn.succ (fun k => by rw [chicorylaw03_NumberBits.j0, if_neg (by decide)]) (Evn.bind (len_ev l0 d0 (by omega)) ?_)
          refine Evn.congr (fun k => ?_) hl
          rw [w64 (nbit (vl 18446744073709551616 l0) - 1) (by omega) (by omega)]
        refine Evn.congr (fun k => ?_) hJ
        unfold chicorylaw03_NumberBits.f
        rw [few_ev, decide_eq_true h0, bsome, if_pos rfl, if_neg (by omega), if_neg (by omega), if_neg (by omega), decide_eq_false (by omega)]
      · refine Evn.congr (fun k => ?_) hA
        unfold chicorylaw03_NumberBits.f
        rw [few_ev, decide_eq_true h0, bsome, if_pos rfl, if_neg (by omega), if_neg (by omega)]
        by_cases hb0 : b < 0
        · rw [if_pos hb0]
        · rw [if_neg hb0, decide_eq_true (by omega)]
    · refine Evn.congr (fun k => ?_) hA
      unfold chicorylaw03_NumberBits.f
      rw [few_ev, decide_eq_true h0, bsome, if_pos rfl]
      by_cases ha0 : a < 0
      · rw [if_pos ha0]
      · rw [if_neg ha0, if_pos (by omega)]
  · refine Evn.congr (fun k => ?_) hA
    unfold chicorylaw03_NumberBits.f
    rw [few_ev, decide_eq_false h0, bsome, if_neg (by decide)]
end Go.Proofs.Ytdaehflffecllaa.Pure
