/- The law NumberWhole, as a statement of numbers and lists: true at every input. -/
import Derived.Test.YtdaehflffecllaaNx10
import Derived.Test.YtdaehflffecllaaA4
import Derived.Test.YtdaehflffecllaaA6
namespace Go.Proofs.Ytdaehflffecllaa.Pure
open Go.RowKit Go.Proofs.Ytdaehflffecllaa.N Go.Proofs.YtdaehflffecllaaW.PrintWords Go.Proofs.Ytdaehflffecllaa.T Go.Proofs.Ytdaehflffecllaa.A

theorem words_same (l : List Int) (h : l.length ≤ 1073741824) : Evn (fun k => chicorylaw03_Words.f k l l) true := by
  have := words_ev l l (by omega)
  rwa [decide_eq_true rfl] at this
theorem compare_ws (n : Int) (hn : 0 ≤ n) (b : List Int) (hb : dg 18446744073709551616 b) (h1 : (dgs 18446744073709551616 n).length ≤ 1073741824) (h2 : b.length ≤ 1073741824) : Evn (fun k => number_Compare.f k (dgs 18446744073709551616 n) b) (cmpI n (vl 18446744073709551616 b)) := by
  have := compare_ev (dgs 18446744073709551616 n) b (dgs_dg B2 n hn) hb (by omega) (by omega)
  rwa [vl_dgs B2 n hn] at this
theorem shv_back (n : Int) (c : Nat) : shv (shv n (c : Int)) (-(c : Int)) = n := by
  have e1 : shv n (c : Int) = n * 2 ^ c := by unfold shv; rw [if_pos (by omega), Int.toNat_natCast]
  rw [e1]
  unfold shv
  by_cases h : c = 0
  · subst h; simp
  · rw [if_neg (by omega), show (- -(c : Int)).toNat = c by omega, Int.mul_ediv_cancel _ (by have := two_pos c; omega)]
theorem cmpI_neg (a b : Int) : cmpI a b = -cmpI b a := by unfold cmpI; split <;> split <;> omega
theorem cmpI_bd (a b : Int) : -1 ≤ cmpI a b ∧ cmpI a b ≤ 1 := by unfold cmpI; split <;> (try split) <;> omega

theorem NumberWhole : chicorylaw03_NumberWhole.Pure := by
  intro l0 l1 l2 _ _ hw0 _ _ hw1 _ _ hw2
  have d0 := wd_of hw0
  have d1 := wd_of hw1
  have d2 := wd_of hw2
  refine Evn.get (?_ : Evn (fun k => chicorylaw03_NumberWhole.f k l0 l1 l2) true)
  have hA : Evn (fun k => chicorylaw03_NumberWhole.j0 k l0 l1 l2 true) true := Evn.succ (fun k => by rw [chicorylaw03_NumberWhole.j0, if_pos rfl]) awake_some
  by_cases h0 : l0.length ≤ 20
  · by_cases h1 : l1.length ≤ 20
    · by_cases h2 : l2.length ≤ 20
      · have n0 := vl_nonneg d0 B0
        have n1 := vl_nonneg d1 B0
        have n2 := vl_nonneg d2 B0
        have m0 := vl_lt d0 B0
        have m1 := vl_lt d1 B0
        have m2 := vl_lt d2 B0
        have p0 := pow_le B0 (show l0.length ≤ 20 by omega)
        have p1 := pow_le B0 (show l1.length ≤ 20 by omega)
        have p2 := pow_le B0 (show l2.length ≤ 20 by omega)
        have lt20 : ∀ x y : Int, 0 ≤ x → 0 ≤ y → x < 18446744073709551616 ^ 21 → y < 18446744073709551616 ^ 21 → x * y < 18446744073709551616 ^ 42 := fun x y hx hy h h' => by
          have a1 : x * y ≤ 18446744073709551616 ^ 21 * y := Int.mul_le_mul_of_nonneg_right (by omega) hy
          have a2 : (18446744073709551616 : Int) ^ 21 * y < 18446744073709551616 ^ 21 * 18446744073709551616 ^ 21 := Int.mul_lt_mul_of_pos_left (by omega) (pow_pos B0 21)
          rw [← Int.pow_add] at a2
          exact Int.lt_of_le_of_lt a1 a2
        have hp := pow_pos B0 20
        have hp21 : (18446744073709551616 : Int) ^ 21 = 18446744073709551616 ^ 20 * 18446744073709551616 := Int.pow_succ ..
        have s0 : 0 ≤ vl 18446744073709551616 l0 + vl 18446744073709551616 l1 := by omega
        have s1 : vl 18446744073709551616 l0 + vl 18446744073709551616 l1 < 18446744073709551616 ^ 21 := by omega
        have x21 : vl 18446744073709551616 l0 < 18446744073709551616 ^ 21 := by omega
        have y21 : vl 18446744073709551616 l1 < 18446744073709551616 ^ 21 := by omega
        have z21 : vl 18446744073709551616 l2 < 18446744073709551616 ^ 21 := by omega
        have len42 : ∀ x : Int, 0 ≤ x → x < 18446744073709551616 ^ 42 → (dgs 18446744073709551616 x).length ≤ 42 := fun x hx h => ws_len x hx 42 h
        have len21 : ∀ x : Int, 0 ≤ x → x < 18446744073709551616 ^ 21 → (dgs 18446744073709551616 x).length ≤ 21 := fun x hx h => ws_len x hx 21 h
        have hJ2 : Evn (fun k => chicorylaw03_NumberWhole.j2 k l0 l1 l2 (dgs 18446744073709551616 (vl 18446744073709551616 l0 + vl 18446744073709551616 l1)) false) true := by
          have e1 := mul_ev (dgs 18446744073709551616 (vl 18446744073709551616 l0 + vl 18446744073709551616 l1)) l2 (dgs_dg B2 _ s0) d2 (by have := len21 _ s0 s1; omega) (by omega)
          rw [vl_dgs B2 _ s0] at e1
          have t0 : 0 ≤ vl 18446744073709551616 l0 * vl 18446744073709551616 l2 := Int.mul_nonneg n0 n2
          have t1 : 0 ≤ vl 18446744073709551616 l1 * vl 18446744073709551616 l2 := Int.mul_nonneg n1 n2
          have t2 : 0 ≤ (vl 18446744073709551616 l0 + vl 18446744073709551616 l1) * vl 18446744073709551616 l2 := Int.mul_nonneg s0 n2
          have e2 := add_ws _ _ t0 t1 42 (by omega) (lt20 _ _ n0 n2 x21 z21) (lt20 _ _ n1 n2 y21 z21)
          rw [← Int.add_mul] at e2
          have u0 := shv_nonneg n0 100
          have u1 : shv (vl 18446744073709551616 l0) 100 < 18446744073709551616 ^ 22 := by
            have := shv_lt (n := vl 18446744073709551616 l0) (w := 1) 20 36 (by omega) n0 (by omega) 22 (by omega)
            exact this
          have hu := ws_len _ u0 22 u1
          have e3 := shift_ev l0 d0 (by omega) 100
          have e4 := shift_ev (dgs 18446744073709551616 (shv (vl 18446744073709551616 l0) 100)) (dgs_dg B2 _ u0) (by omega) (-100)
          rw [vl_dgs B2 _ u0] at e4
          unfold shiftR at e3 e4
          rw [if_neg (by omega)] at e3 e4
          have hback := shv_back (vl 18446744073709551616 l0) 100
          rw [show ((100 : Nat) : Int) = 100 from rfl] at hback
          rw [hback] at e4
          have e5 := compare_ws (vl 18446744073709551616 l0) n0 l0 d0 (by have := len21 _ n0 x21; omega) (by omega)
          rw [cmpI_self] at e5
          refine Evn.succ (fun k => by rw [chicorylaw03_NumberWhole.j2, if_neg (by decide)]) (Evn.bind e1 (Evn.bind (mul_ev l0 l2 d0 d2 (by omega) (by omega)) (Evn.bind (mul_ev l1 l2 d1 d2 (by omega) (by omega)) (Evn.bind e2 (Evn.bind (words_same (dgs 18446744073709551616 ((vl 18446744073709551616 l0 + vl 18446744073709551616 l1) * vl 18446744073709551616 l2)) (by have := len42 _ t2 (lt20 _ _ s0 n2 s1 z21); omega)) ?_)))))
          refine Evn.congr (fun k => by rw [if_pos rfl]) (Evn.bind e3 (Evn.bind e4 ?_))
          refine Evn.congr (fun k => by rw [if_pos rfl, if_pos rfl]) (Evn.bind e5 ?_)
          refine Evn.congr (fun k => by rw [if_pos rfl]) (Evn.bind (compare_ev l0 l1 d0 d1 (by omega) (by omega)) (Evn.bind (compare_ev l1 l0 d1 d0 (by omega) (by omega)) ?_))
          have hb := cmpI_bd (vl 18446744073709551616 l1) (vl 18446744073709551616 l0)
          exact Evn.congr (fun k => by rw [w64 _ (by omega) (by omega), if_pos (cmpI_neg _ _)]) awake_some
        have hJ1 : Evn (fun k => chicorylaw03_NumberWhole.j1 k l0 l1 l2 false) true := by
          have e1 := sub_ev (dgs 18446744073709551616 (vl 18446744073709551616 l0 + vl 18446744073709551616 l1)) l1 (dgs_dg B2 _ s0) d1 (by have := len21 _ s0 s1; omega) (by omega)
          rw [vl_dgs B2 _ s0] at e1
          unfold subR at e1
          rw [if_neg (by omega), show vl 18446744073709551616 l0 + vl 18446744073709551616 l1 - vl 18446744073709551616 l1 = vl 18446744073709551616 l0 by omega] at e1
          have e2 := compare_ws (vl 18446744073709551616 l0) n0 l0 d0 (by have := len21 _ n0 x21; omega) (by omega)
          rw [cmpI_self] at e2
          have e3 := add_ev l1 l0 d1 d0 (by omega) (by omega)
          rw [Int.add_comm (vl 18446744073709551616 l1)] at e3
          have e4 := mul_ev l1 l0 d1 d0 (by omega) (by omega)
          rw [Int.mul_comm (vl 18446744073709551616 l1)] at e4
          have t0 : 0 ≤ vl 18446744073709551616 l0 * vl 18446744073709551616 l1 := Int.mul_nonneg n0 n1
          refine Evn.succ (fun k => by rw [chicorylaw03_NumberWhole.j1, if_neg (by decide)]) (Evn.bind (add_ev l0 l1 d0 d1 (by omega) (by omega)) (Evn.bind e1 ?_))
          refine Evn.congr (fun k => by rw [if_pos rfl]) (Evn.bind e2 ?_)
          refine Evn.congr (fun k => by rw [if_pos rfl]) (Evn.bind e3 (Evn.bind (words_same (dgs 18446744073709551616 (vl 18446744073709551616 l0 + vl 18446744073709551616 l1)) (by have := len21 _ s0 s1; omega)) ?_))
          refine Evn.congr (fun k => by rw [if_pos rfl]) (Evn.bind (mul_ev l0 l1 d0 d1 (by omega) (by omega)) (Evn.bind e4 (Evn.bind (words_same (dgs 18446744073709551616 (vl 18446744073709551616 l0 * vl 18446744073709551616 l1)) (by have := len42 _ t0 (lt20 _ _ n0 n1 x21 y21); omega)) ?_)))
          exact hJ2
        have hJ : Evn (fun k => chicorylaw03_NumberWhole.j0 k l0 l1 l2 false) true := by
          refine Evn.succ (fun k => by rw [chicorylaw03_NumberWhole.j0, if_neg (by decide)]) (Evn.bind (div_ev l0 l1 d0 d1 (by omega) (by omega)) ?_)
          unfold divR
          by_cases hz : vl 18446744073709551616 l1 = 0
          · refine Evn.congr (fun k => ?_) hJ1
            rw [if_pos hz, if_neg (by decide)]
          · have q0 : 0 ≤ vl 18446744073709551616 l0 / vl 18446744073709551616 l1 := ediv_nn n0 n1
            have q1 : vl 18446744073709551616 l0 / vl 18446744073709551616 l1 < 18446744073709551616 ^ 21 := by have := ediv_le_self' (b := vl 18446744073709551616 l1) n0; omega
            have r0 : 0 ≤ vl 18446744073709551616 l0 % vl 18446744073709551616 l1 := Int.emod_nonneg _ hz
            have r2 := Int.emod_lt_of_pos (vl 18446744073709551616 l0) (show 0 < vl 18446744073709551616 l1 by omega)
            have r1 : vl 18446744073709551616 l0 % vl 18446744073709551616 l1 < 18446744073709551616 ^ 21 := by omega
            have e1 := mul_ev (dgs 18446744073709551616 (vl 18446744073709551616 l0 / vl 18446744073709551616 l1)) l1 (dgs_dg B2 _ q0) d1 (by have := len21 _ q0 q1; omega) (by omega)
            rw [vl_dgs B2 _ q0] at e1
            have t0 : 0 ≤ vl 18446744073709551616 l0 / vl 18446744073709551616 l1 * vl 18446744073709551616 l1 := Int.mul_nonneg q0 n1
            have e2 := add_ws _ _ t0 r0 42 (by omega) (lt20 _ _ q0 n1 q1 y21) (by have : (18446744073709551616 : Int) ^ 21 ≤ 18446744073709551616 ^ 42 := pow_le B0 (by omega)
                                                                                  omega)
            have hdm : vl 18446744073709551616 l0 / vl 18446744073709551616 l1 * vl 18446744073709551616 l1 + vl 18446744073709551616 l0 % vl 18446744073709551616 l1 = vl 18446744073709551616 l0 := by have := Int.emod_add_mul_ediv (vl 18446744073709551616 l0) (vl 18446744073709551616 l1); rw [Int.mul_comm]; omega
            rw [hdm] at e2
            have e3 := compare_ws (vl 18446744073709551616 l0) n0 l0 d0 (by have := len21 _ n0 x21; omega) (by omega)
            rw [cmpI_self] at e3
            have e4 := compare_ws (vl 18446744073709551616 l0 % vl 18446744073709551616 l1) r0 l1 d1 (by have := len21 _ r0 r1; omega) (by omega)
            refine Evn.congr (fun k => by rw [if_neg hz, if_pos rfl]) (Evn.bind e1 (Evn.bind e2 (Evn.bind e3 ?_)))
            refine Evn.congr (fun k => by rw [if_pos rfl]) (Evn.bind e4 ?_)
            refine Evn.congr (fun k => ?_) hJ1
            rw [decide_eq_false (fun e => by have := cmpI_lt.2 r2; omega)]
        refine Evn.congr (fun k => ?_) hJ
        unfold chicorylaw03_NumberWhole.f
        rw [few_ev, few_ev, few_ev, decide_eq_true h0, decide_eq_true h1, decide_eq_true h2, bsome, if_pos rfl, bsome, if_pos rfl, bsome]; rfl
      · refine Evn.congr (fun k => ?_) hA
        unfold chicorylaw03_NumberWhole.f
        rw [few_ev, few_ev, few_ev, decide_eq_true h0, decide_eq_true h1, decide_eq_false h2, bsome, if_pos rfl, bsome, if_pos rfl, bsome]; rfl
    · refine Evn.congr (fun k => ?_) hA
      unfold chicorylaw03_NumberWhole.f
      rw [few_ev, few_ev, decide_eq_true h0, decide_eq_false h1, bsome, if_pos rfl, bsome, if_neg (by decide)]
  · refine Evn.congr (fun k => ?_) hA
    unfold chicorylaw03_NumberWhole.f
    rw [few_ev, decide_eq_false h0, bsome, if_neg (by decide)]
end Go.Proofs.Ytdaehflffecllaa.Pure
