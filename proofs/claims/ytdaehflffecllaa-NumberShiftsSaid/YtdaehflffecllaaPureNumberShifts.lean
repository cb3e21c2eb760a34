/- The law NumberShifts, as a statement of numbers and lists: true at every input. -/
import Derived.Test.YtdaehflffecllaaNlNumberShifts
import Derived.Test.YtdaehflffecllaaA7
namespace Go.Proofs.Ytdaehflffecllaa.Pure
open Go.RowKit Go.Proofs.Ytdaehflffecllaa.N Go.Proofs.YtdaehflffecllaaW.PrintWords Go.Proofs.Ytdaehflffecllaa.T Go.Proofs.Ytdaehflffecllaa.A

theorem NumberShifts : chicorylaw03_NumberShifts.Pure := by
  intro l0 a1 _ _ hw0 _
  have d0 := wd_of hw0
  refine Evn.get (?_ : Evn (fun k => chicorylaw03_NumberShifts.f k l0 a1) true)
  have hA : Evn (fun k => chicorylaw03_NumberShifts.j0 k l0 a1 true) true := Evn.succ (fun k => by rw [chicorylaw03_NumberShifts.j0, if_pos rfl]) awake_some
  have hJ : l0.length ≤ 20 → (a1 < -65536 ∨ (-3000 ≤ a1 ∧ a1 ≤ 3000) ∨ 65536 < a1) → Evn (fun k => chicorylaw03_NumberShifts.j0 k l0 a1 false) true := by
    intro h0 hc
    have k0 := sb_len d0
    have n0 := vl_nonneg d0 B0
    have m0 := vl_lt d0 B0
    have p0 := pow_le B0 (show l0.length ≤ 20 by omega)
    refine Evn.succ (fun k => by rw [chicorylaw03_NumberShifts.j0, if_neg (by decide)]) (Evn.bind (shift_ev l0 d0 (by omega) a1) ?_)
    have hT : Evn (fun k => chicorylaw03_NumberShifts.j1 k l0 a1 [] 10 true) true := Evn.succ (fun k => by rw [chicorylaw03_NumberShifts.j1, if_pos rfl]; rfl) awake_some
    unfold shiftR
    by_cases h1 : a1 < -65536
    · refine Evn.congr (fun k => ?_) hT
      rw [if_pos h1, if_pos (show a1 < -65536 ∨ 65536 < a1 from Or.inl h1)]
    · by_cases h2 : a1 > 65536
      · refine Evn.congr (fun k => ?_) hT
        rw [if_neg h1, decide_eq_true h2, if_pos (show a1 < -65536 ∨ 65536 < a1 from Or.inr h2)]
      · have hs := rshift_ev _ (sb_dg d0) a1 (by omega) (by omega) (by omega)
        rw [sb_vl d0] at hs
        have s0 := shv_nonneg n0 a1
        have s1 : shv (vl 18446744073709551616 l0) a1 < 18446744073709551616 ^ 67 := by
          have := shv_lt (n := vl 18446744073709551616 l0) (w := a1 / 64) 20 (a1 % 64).toNat (by omega) n0 (by omega) 67 (by omega)
          rwa [show 64 * (a1 / 64) + ((a1 % 64).toNat : Int) = a1 by omega] at this
        have b67 : shv (vl 18446744073709551616 l0) a1 < 256 ^ (8 * 67) := by rw [Int.pow_mul]; exact s1
        have iS := is_ev _ s0 _ (dgs_dg C2 _ s0) (by have := ws_len _ s0 67 s1; omega) (by have := sb_len' s0 (8 * 67) b67; omega) (vl_dgs C2 _ s0).symm
        have hF : Evn (fun k => chicorylaw03_NumberShifts.j1 k l0 a1 (dgs 18446744073709551616 (shv (vl 18446744073709551616 l0) a1)) 0 false) true := by
          refine Evn.succ (fun k => by rw [chicorylaw03_NumberShifts.j1, if_neg (by decide)]) (Evn.bind (bytes_ev l0 d0 (by omega)) (Evn.bind hs (Evn.bind iS ?_)))
          exact Evn.congr (fun k => by rw [if_pos rfl, if_pos rfl]) awake_some
        refine Evn.congr (fun k => ?_) hF
        rw [if_neg h1, decide_eq_false h2, if_neg (show ¬ (a1 < -65536 ∨ 65536 < a1) by omega)]
  by_cases h0 : l0.length ≤ 20
  · have e : ∀ k, chicorylaw03_NumberShifts.f k l0 a1 = (if a1 ≥ (-65536) then (if a1 < (-3000) then (chicorylaw03_NumberShifts.j0 k l0 a1 true) else (if a1 > 3000 then (chicorylaw03_NumberShifts.j0 k l0 a1 (decide (a1 ≤ 65536))) else (chicorylaw03_NumberShifts.j0 k l0 a1 false))) else (if a1 > 3000 then (chicorylaw03_NumberShifts.j0 k l0 a1 (decide (a1 ≤ 65536))) else (chicorylaw03_NumberShifts.j0 k l0 a1 false))) := fun k => by
      unfold chicorylaw03_NumberShifts.f
      rw [few_ev, decide_eq_true h0, bsome, if_pos rfl]
    by_cases c1 : a1 < -65536
    · exact Evn.congr (fun k => by rw [e, if_neg (by omega), if_neg (by omega)]) (hJ h0 (.inl c1))
    · by_cases c2 : a1 < -3000
      · exact Evn.congr (fun k => by rw [e, if_pos (by omega), if_pos c2]) hA
      · by_cases c3 : a1 > 3000
        · by_cases c4 : a1 ≤ 65536
          · exact Evn.congr (fun k => by rw [e, if_pos (by omega), if_neg c2, if_pos c3, decide_eq_true c4]) hA
          · exact Evn.congr (fun k => by rw [e, if_pos (by omega), if_neg c2, if_pos c3, decide_eq_false c4]) (hJ h0 (.inr (.inr (by omega))))
        · exact Evn.congr (fun k => by rw [e, if_pos (by omega), if_neg c2, if_neg c3]) (hJ h0 (.inr (.inl (by omega))))
  · refine Evn.congr (fun k => ?_) hA
    unfold chicorylaw03_NumberShifts.f
    rw [few_ev, decide_eq_false h0, bsome, if_neg (by decide)]
end Go.Proofs.Ytdaehflffecllaa.Pure
