/- The law NumberDivides, as a statement of numbers and lists: true at every input. -/
import Derived.Test.YtdaehflffecllaaNlNumberDivides
import Derived.Test.YtdaehflffecllaaA7
namespace Go.Proofs.Ytdaehflffecllaa.Pure
open Go.RowKit Go.Proofs.Ytdaehflffecllaa.N Go.Proofs.YtdaehflffecllaaW.PrintWords Go.Proofs.Ytdaehflffecllaa.T Go.Proofs.Ytdaehflffecllaa.A

theorem NumberDivides : chicorylaw03_NumberDivides.Pure := by
  intro l0 l1 _ _ hw0 _ _ hw1
  have d0 := wd_of hw0
  have d1 := wd_of hw1
  refine Evn.get (?_ : Evn (fun k => chicorylaw03_NumberDivides.f k l0 l1) true)
  have hA : Evn (fun k => chicorylaw03_NumberDivides.j0 k l0 l1 true) true := Evn.succ (fun k => by rw [chicorylaw03_NumberDivides.j0, if_pos rfl]) awake_some
  by_cases h0 : l0.length ≤ 20
  · by_cases h1 : l1.length ≤ 20
    · have k0 := sb_len d0
      have k1 := sb_len d1
      have n0 := vl_nonneg d0 B0
      have n1 := vl_nonneg d1 B0
      have m0 := vl_lt d0 B0
      have m1 := vl_lt d1 B0
      have p0 := pow_le B0 (show l0.length ≤ 20 by omega)
      have p1 := pow_le B0 (show l1.length ≤ 20 by omega)
      have hJ : Evn (fun k => chicorylaw03_NumberDivides.j0 k l0 l1 false) true := by
        refine Evn.succ (fun k => by rw [chicorylaw03_NumberDivides.j0, if_neg (by decide)]) ?_
        refine Evn.bind (div_ev l0 l1 d0 d1 (by omega) (by omega)) (Evn.bind (bytes_ev l1 d1 (by omega)) ?_)
        unfold divR
        by_cases hz : vl 18446744073709551616 l1 = 0
        · refine Evn.congr (fun k => ?_) awake_some
          rw [if_pos hz, hz, dgs_zero]; rfl
        · have hne : ¬ (((dgs 256 (vl 18446744073709551616 l1)).length : Int) = 0) := fun e => hz ((dgs_nil_iff C2 _ n1).1 (List.eq_nil_of_length_eq_zero (by omega)))
          have hq := rdiv_ev _ _ (sb_dg d0) (sb_dg d1) (by omega) (by omega) (by rw [sb_vl d1]; omega)
          rw [sb_vl d0, sb_vl d1] at hq
          have q0 : 0 ≤ vl 18446744073709551616 l0 / vl 18446744073709551616 l1 := ediv_nn n0 n1
          have q1 : vl 18446744073709551616 l0 / vl 18446744073709551616 l1 < 18446744073709551616 ^ 20 := by have := ediv_le_self' (b := vl 18446744073709551616 l1) n0; omega
          have r0 : 0 ≤ vl 18446744073709551616 l0 % vl 18446744073709551616 l1 := Int.emod_nonneg _ hz
          have r1 : vl 18446744073709551616 l0 % vl 18446744073709551616 l1 < 18446744073709551616 ^ 20 := by have := Int.emod_lt_of_pos (vl 18446744073709551616 l0) (show 0 < vl 18446744073709551616 l1 by omega); omega
          have b20 : ∀ n : Int, n < 18446744073709551616 ^ 20 → n < 256 ^ (8 * 20) := fun n h => by rw [Int.pow_mul]; exact h
          have iq := is_ev _ q0 _ (dgs_dg C2 _ q0) (by have := ws_len _ q0 20 q1; omega) (by have := sb_len' q0 (8 * 20) (b20 _ q1); omega) (vl_dgs C2 _ q0).symm
          have ir := is_ev _ r0 _ (dgs_dg C2 _ r0) (by have := ws_len _ r0 20 r1; omega) (by have := sb_len' r0 (8 * 20) (b20 _ r1); omega) (vl_dgs C2 _ r0).symm
          refine Evn.congr (fun k => by rw [if_neg hz, if_neg hne]) (Evn.bind (bytes_ev l0 d0 (by omega)) (Evn.bind hq (Evn.bind iq ?_)))
          refine Evn.congr (fun k => by rw [if_pos rfl]) (Evn.bind ir ?_)
          exact Evn.congr (fun k => by rw [if_pos rfl, if_pos rfl]) awake_some
      refine Evn.congr (fun k => ?_) hJ
      unfold chicorylaw03_NumberDivides.f
      rw [few_ev, few_ev, decide_eq_true h0, decide_eq_true h1, bsome, if_pos rfl, bsome]; rfl
    · refine Evn.congr (fun k => ?_) hA
      unfold chicorylaw03_NumberDivides.f
      rw [few_ev, few_ev, decide_eq_true h0, decide_eq_false h1, bsome, if_pos rfl, bsome]; rfl
  · refine Evn.congr (fun k => ?_) hA
    unfold chicorylaw03_NumberDivides.f
    rw [few_ev, decide_eq_false h0, bsome, if_neg (by decide)]
end Go.Proofs.Ytdaehflffecllaa.Pure
