/- The law NumberSums, as a statement of numbers and lists: true at every input. -/
import Derived.Test.YtdaehflffecllaaNx6
import Derived.Test.YtdaehflffecllaaA5
namespace Go.Proofs.Ytdaehflffecllaa.Pure
open Go.RowKit Go.Proofs.Ytdaehflffecllaa.N Go.Proofs.YtdaehflffecllaaW.PrintWords Go.Proofs.Ytdaehflffecllaa.T Go.Proofs.Ytdaehflffecllaa.A

theorem NumberSums : chicorylaw03_NumberSums.Pure := by
  intro l0 l1 _ _ hw0 _ _ hw1
  have d0 := wd_of hw0
  have d1 := wd_of hw1
  refine Evn.get (?_ : Evn (fun k => chicorylaw03_NumberSums.f k l0 l1) true)
  have hA : Evn (fun k => chicorylaw03_NumberSums.j0 k l0 l1 true) true := Evn.succ (fun k => by rw [chicorylaw03_NumberSums.j0, if_pos rfl]) awake_some
  by_cases h0 : l0.length ≤ 20
  · by_cases h1 : l1.length ≤ 20
    · have k0 := sb_len d0
      have k1 := sb_len d1
      have n0 := vl_nonneg d0 B0
      have n1 := vl_nonneg d1 B0
      have m0 := vl_lt d0 B0
      have m1 := vl_lt d1 B0
      have p0 := pow_le B0 (show l0.length ≤ 20 by omega)
      have p1 := pow_le B0 (show l1.length ≤ 20 by omega)
      have hC := rcompare_ev _ _ (sb_dg d0) (sb_dg d1) (by omega) (by omega)
      have hS := radd_ev _ _ (sb_dg d0) (sb_dg d1) (by omega) (by omega)
      have hM := rmul_ev _ _ (sb_dg d0) (sb_dg d1) (by omega) (by omega)
      have hsum : 0 ≤ vl 18446744073709551616 l0 + vl 18446744073709551616 l1 := by omega
      have hmul : 0 ≤ vl 18446744073709551616 l0 * vl 18446744073709551616 l1 := Int.mul_nonneg n0 n1
      have hmlt : vl 18446744073709551616 l0 * vl 18446744073709551616 l1 < 18446744073709551616 ^ 40 := by
        have a1 : vl 18446744073709551616 l0 * vl 18446744073709551616 l1 ≤ 18446744073709551616 ^ 20 * vl 18446744073709551616 l1 := Int.mul_le_mul_of_nonneg_right (by omega) n1
        have a2 : (18446744073709551616 : Int) ^ 20 * vl 18446744073709551616 l1 < 18446744073709551616 ^ 20 * 18446744073709551616 ^ 20 := Int.mul_lt_mul_of_pos_left (by omega) (pow_pos B0 20)
        rw [← Int.pow_add] at a2
        exact Int.lt_of_le_of_lt a1 a2
      have hslt : vl 18446744073709551616 l0 + vl 18446744073709551616 l1 < 18446744073709551616 ^ 21 := by
        rw [Int.pow_succ]
        have := pow_pos B0 20
        generalize (18446744073709551616 : Int) ^ 20 = p at *
        omega
      have hlt40 : ∀ (n : Int) (m : Nat), 0 ≤ n → n < 18446744073709551616 ^ m → n < 256 ^ (8 * m) := fun n m _ h => by rw [Int.pow_mul]; exact h
      have iS := is_ev _ hsum _ (dgs_dg C2 _ hsum) (by have := ws_len _ hsum 21 hslt; omega) (by have := sb_len' hsum (8 * 21) (hlt40 _ 21 hsum hslt); omega) (vl_dgs C2 _ hsum).symm
      have iM := is_ev _ hmul _ (dgs_dg C2 _ hmul) (by have := ws_len _ hmul 40 hmlt; omega) (by have := sb_len' hmul (8 * 40) (hlt40 _ 40 hmul hmlt); omega) (vl_dgs C2 _ hmul).symm
      rw [sb_vl d0, sb_vl d1] at hC hS hM
      have hJ1 : Evn (fun k => chicorylaw03_NumberSums.j1 k l0 l1 (dgs 256 (vl 18446744073709551616 l0)) (dgs 256 (vl 18446744073709551616 l1)) false) true := by
        refine Evn.succ (fun k => by rw [chicorylaw03_NumberSums.j1, if_neg (by decide)]) (Evn.bind (sub_ev l0 l1 d0 d1 (by omega) (by omega)) (Evn.bind hC ?_))
        unfold subR
        by_cases hlt : vl 18446744073709551616 l0 < vl 18446744073709551616 l1
        · refine Evn.congr (fun k => ?_) awake_some
          rw [if_pos (cmpI_lt.2 hlt), if_pos hlt]
          rfl
        · have hD := rsub_ev _ _ (sb_dg d0) (sb_dg d1) (by omega) (by rw [sb_vl d0, sb_vl d1]; omega)
          rw [sb_vl d0, sb_vl d1] at hD
          have hd : 0 ≤ vl 18446744073709551616 l0 - vl 18446744073709551616 l1 := by omega
          have hdlt : vl 18446744073709551616 l0 - vl 18446744073709551616 l1 < 18446744073709551616 ^ 21 := by omega
          have iD := is_ev _ hd _ (dgs_dg C2 _ hd) (by have := ws_len _ hd 21 hdlt; omega) (by have := sb_len' hd (8 * 21) (hlt40 _ 21 hd hdlt); omega) (vl_dgs C2 _ hd).symm
          refine Evn.congr (fun k => by rw [if_neg (fun e => hlt (cmpI_lt.1 e)), if_neg hlt]) (Evn.bind hD (Evn.bind iD ?_))
          exact Evn.congr (fun k => by rw [if_pos rfl, if_pos rfl]) awake_some
      have hJ : Evn (fun k => chicorylaw03_NumberSums.j0 k l0 l1 false) true := by
        refine Evn.succ (fun k => by rw [chicorylaw03_NumberSums.j0, if_neg (by decide)]) ?_
        refine Evn.bind (bytes_ev l0 d0 (by omega)) (Evn.bind (bytes_ev l1 d1 (by omega)) (Evn.bind (add_ev l0 l1 d0 d1 (by omega) (by omega)) (Evn.bind hS (Evn.bind iS ?_))))
        refine Evn.congr (fun k => by rw [if_pos rfl]) (Evn.bind (mul_ev l0 l1 d0 d1 (by omega) (by omega)) (Evn.bind hM (Evn.bind iM ?_)))
        exact hJ1
      refine Evn.congr (fun k => ?_) hJ
      unfold chicorylaw03_NumberSums.f
      rw [few_ev, few_ev, decide_eq_true h0, decide_eq_true h1, bsome, if_pos rfl, bsome]; rfl
    · refine Evn.congr (fun k => ?_) hA
      unfold chicorylaw03_NumberSums.f
      rw [few_ev, few_ev, decide_eq_true h0, decide_eq_false h1, bsome, if_pos rfl, bsome]; rfl
  · refine Evn.congr (fun k => ?_) hA
    unfold chicorylaw03_NumberSums.f
    rw [few_ev, decide_eq_false h0, bsome, if_neg (by decide)]
end Go.Proofs.Ytdaehflffecllaa.Pure
