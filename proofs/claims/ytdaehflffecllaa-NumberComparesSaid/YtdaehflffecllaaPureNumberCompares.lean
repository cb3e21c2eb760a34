/- The law NumberCompares, as a statement of numbers and lists: true at every input. -/
import Derived.Test.YtdaehflffecllaaNx5
import Derived.Test.YtdaehflffecllaaA4
namespace Go.Proofs.Ytdaehflffecllaa.Pure
open Go.RowKit Go.Proofs.Ytdaehflffecllaa.N Go.Proofs.YtdaehflffecllaaW.PrintWords Go.Proofs.Ytdaehflffecllaa.T Go.Proofs.Ytdaehflffecllaa.A

theorem NumberCompares : chicorylaw03_NumberCompares.Pure := by
  intro l0 l1 a2 _ _ hw0 _ _ hw1 ha2
  have d0 := wd_of hw0
  have d1 := wd_of hw1
  have hi := i64_of ha2
  refine Evn.get (?_ : Evn (fun k => chicorylaw03_NumberCompares.f k l0 l1 a2) true)
  have hA : Evn (fun k => chicorylaw03_NumberCompares.j0 k l0 l1 a2 true) true := Evn.succ (fun k => by rw [chicorylaw03_NumberCompares.j0, if_pos rfl]) awake_some
  by_cases h0 : l0.length ≤ 20
  · by_cases h1 : l1.length ≤ 20
    · have k0 := sb_len d0
      have k1 := sb_len d1
      have hC := rcompare_ev _ _ (sb_dg d0) (sb_dg d1) (by omega) (by omega)
      have hL := rlen_ev _ (sb_dg d0) (by omega)
      have hB := rbit_ev _ (sb_dg d0) a2 hi.2
      rw [sb_vl d0] at hC hL hB
      rw [sb_vl d1] at hC
      have hJ : Evn (fun k => chicorylaw03_NumberCompares.j0 k l0 l1 a2 false) true := by
        refine Evn.succ (fun k => by rw [chicorylaw03_NumberCompares.j0, if_neg (by decide)]) ?_
        refine Evn.bind (bytes_ev l0 d0 (by omega)) (Evn.bind (bytes_ev l1 d1 (by omega)) (Evn.bind (compare_ev l0 l1 d0 d1 (by omega) (by omega)) (Evn.bind hC ?_)))
        refine Evn.congr (fun k => by rw [if_pos rfl]) (Evn.bind (len_ev l0 d0 (by omega)) (Evn.bind hL ?_))
        refine Evn.congr (fun k => by rw [if_pos rfl, bit_ev l0 d0 a2 hi.2, bsome]) (Evn.bind hB ?_)
        exact Evn.congr (fun k => by rw [if_pos rfl]) awake_some
      refine Evn.congr (fun k => ?_) hJ
      unfold chicorylaw03_NumberCompares.f
      rw [few_ev, few_ev, decide_eq_true h0, decide_eq_true h1, bsome, if_pos rfl, bsome]; rfl
    · refine Evn.congr (fun k => ?_) hA
      unfold chicorylaw03_NumberCompares.f
      rw [few_ev, few_ev, decide_eq_true h0, decide_eq_false h1, bsome, if_pos rfl, bsome]; rfl
  · refine Evn.congr (fun k => ?_) hA
    unfold chicorylaw03_NumberCompares.f
    rw [few_ev, decide_eq_false h0, bsome, if_neg (by decide)]
end Go.Proofs.Ytdaehflffecllaa.Pure
