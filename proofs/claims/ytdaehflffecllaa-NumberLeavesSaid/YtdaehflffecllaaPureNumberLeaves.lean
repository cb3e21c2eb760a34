/- The law NumberLeaves, as a statement of numbers and lists: true at every input. -/
import Derived.Test.YtdaehflffecllaaNlNumberLeaves
import Derived.Test.YtdaehflffecllaaNx2
import Derived.Test.YtdaehflffecllaaA4
namespace Go.Proofs.Ytdaehflffecllaa.Pure
open Go.RowKit Go.Proofs.Ytdaehflffecllaa.N Go.Proofs.YtdaehflffecllaaW.PrintWords Go.Proofs.Ytdaehflffecllaa.T Go.Proofs.Ytdaehflffecllaa.A

theorem div_ws (n : Int) (hn : 0 ≤ n) (b : List Int) (hb : dg 18446744073709551616 b) (h1 : (dgs 18446744073709551616 n).length ≤ 67108864) (h2 : b.length ≤ 67108864) : Evn (fun k => number_Div.f k (dgs 18446744073709551616 n) b) (divR n (vl 18446744073709551616 b)) := by
  have := div_ev (dgs 18446744073709551616 n) b (dgs_dg B2 n hn) hb h1 h2
  rwa [vl_dgs B2 n hn] at this
theorem words_same' (l : List Int) (h : l.length ≤ 1073741824) : Evn (fun k => chicorylaw03_Words.f k l l) true := by
  have := words_ev l l (by omega)
  rwa [decide_eq_true rfl] at this
theorem NumberLeaves : chicorylaw03_NumberLeaves.Pure := by
  intro l0 l1 l2 _ _ hw0 _ _ hw1 _ _ hw2
  have d0 := wd_of hw0
  have d1 := wd_of hw1
  have d2 := wd_of hw2
  refine Evn.get (?_ : Evn (fun k => chicorylaw03_NumberLeaves.f k l0 l1 l2) true)
  have hA : Evn (fun k => chicorylaw03_NumberLeaves.j0 k l0 l1 l2 true) true := Evn.succ (fun k => by rw [chicorylaw03_NumberLeaves.j0, if_pos rfl]) awake_some
  by_cases h0 : l0.length ≤ 20
  · by_cases h1 : l1.length ≤ 20
    · by_cases h2 : l2.length ≤ 20
      · have n0 := vl_nonneg d0 B0
        have n1 := vl_nonneg d1 B0
        have n2 := vl_nonneg d2 B0
        have m0 := vl_lt d0 B0
        have m1 := vl_lt d1 B0
        have m2 := vl_lt d2 B0
        have p0 := pow_le B0 (show l0.length ≤ 20 by omega)
        have p1 := pow_le B0 (show l1.length ≤ 20 by omega)
        have p2 := pow_le B0 (show l2.length ≤ 20 by omega)
        have hp := pow_pos B0 20
        have hp21 : (18446744073709551616 : Int) ^ 21 = 18446744073709551616 ^ 20 * 18446744073709551616 := Int.pow_succ ..
        have lt42 : ∀ x y : Int, 0 ≤ x → 0 ≤ y → x < 18446744073709551616 ^ 21 → y < 18446744073709551616 ^ 21 → x * y < 18446744073709551616 ^ 42 := fun x y hx hy h h' => by
          have a1 : x * y ≤ 18446744073709551616 ^ 21 * y := Int.mul_le_mul_of_nonneg_right (by omega) hy
          have a2 : (18446744073709551616 : Int) ^ 21 * y < 18446744073709551616 ^ 21 * 18446744073709551616 ^ 21 := Int.mul_lt_mul_of_pos_left (by omega) (pow_pos B0 21)
          rw [← Int.pow_add] at a2
          exact Int.lt_of_le_of_lt a1 a2
        have s0 : 0 ≤ vl 18446744073709551616 l0 + vl 18446744073709551616 l1 := by omega
        have s1 : vl 18446744073709551616 l0 + vl 18446744073709551616 l1 < 18446744073709551616 ^ 21 := by omega
        have t0 : 0 ≤ vl 18446744073709551616 l0 * vl 18446744073709551616 l1 := Int.mul_nonneg n0 n1
        have t1 := lt42 _ _ n0 n1 (by omega) (by omega)
        have ls := ws_len _ s0 21 s1
        have lt := ws_len _ t0 42 t1
        have eD0 := div_ev l0 l2 d0 d2 (by omega) (by omega)
        have eD1 := div_ev l1 l2 d1 d2 (by omega) (by omega)
        have eS := add_ev l0 l1 d0 d1 (by omega) (by omega)
        have eM := mul_ev l0 l1 d0 d1 (by omega) (by omega)
        have eDS := div_ws _ s0 l2 d2 (by omega) (by omega)
        have eDM := div_ws _ t0 l2 d2 (by omega) (by omega)
        have eL := len_ev l2 d2 (by omega)
        have hJ : Evn (fun k => chicorylaw03_NumberLeaves.j0 k l0 l1 l2 false) true := by
          refine Evn.succ (fun k => by rw [chicorylaw03_NumberLeaves.j0, if_neg (by decide)]) (Evn.bind eD0 (Evn.bind eD1 (Evn.bind eS (Evn.bind eDS (Evn.bind eM (Evn.bind eDM (Evn.bind eL ?_)))))))
          by_cases hz : vl 18446744073709551616 l2 = 0
          · unfold divR
            refine Evn.congr (fun k => ?_) awake_some
            rw [hz, if_pos nbit_zero, if_pos rfl, if_pos rfl, if_pos rfl, if_pos rfl, if_pos rfl, if_pos rfl, if_pos rfl, if_pos rfl]
          · have hz2 : 0 < vl 18446744073709551616 l2 := by omega
            have hnb := nbit_pos hz2
            have x0 : 0 ≤ vl 18446744073709551616 l0 % vl 18446744073709551616 l2 := Int.emod_nonneg _ hz
            have x1 := Int.emod_lt_of_pos (vl 18446744073709551616 l0) hz2
            have y0 : 0 ≤ vl 18446744073709551616 l1 % vl 18446744073709551616 l2 := Int.emod_nonneg _ hz
            have y1 := Int.emod_lt_of_pos (vl 18446744073709551616 l1) hz2
            have u0 : 0 ≤ vl 18446744073709551616 l0 % vl 18446744073709551616 l2 + vl 18446744073709551616 l1 % vl 18446744073709551616 l2 := by omega
            have v0 : 0 ≤ vl 18446744073709551616 l0 % vl 18446744073709551616 l2 * (vl 18446744073709551616 l1 % vl 18446744073709551616 l2) := Int.mul_nonneg x0 y0
            have eA := add_ws _ _ x0 y0 20 (by omega) (by omega) (by omega)
            have lx := ws_len _ x0 20 (by omega)
            have ly := ws_len _ y0 20 (by omega)
            have eP := mul_ev (dgs 18446744073709551616 (vl 18446744073709551616 l0 % vl 18446744073709551616 l2)) (dgs 18446744073709551616 (vl 18446744073709551616 l1 % vl 18446744073709551616 l2)) (dgs_dg B2 _ x0) (dgs_dg B2 _ y0) (by omega) (by omega)
            rw [vl_dgs B2 _ x0, vl_dgs B2 _ y0] at eP
            have lu := ws_len _ u0 21 (by omega)
            have lv := ws_len _ v0 42 (lt42 _ _ x0 y0 (by omega) (by omega))
            have eDA := div_ws _ u0 l2 d2 (by omega) (by omega)
            have eDP := div_ws _ v0 l2 d2 (by omega) (by omega)
            have eqS : (vl 18446744073709551616 l0 + vl 18446744073709551616 l1) % vl 18446744073709551616 l2 = (vl 18446744073709551616 l0 % vl 18446744073709551616 l2 + vl 18446744073709551616 l1 % vl 18446744073709551616 l2) % vl 18446744073709551616 l2 := Int.add_emod ..
            have eqM : (vl 18446744073709551616 l0 * vl 18446744073709551616 l1) % vl 18446744073709551616 l2 = (vl 18446744073709551616 l0 % vl 18446744073709551616 l2 * (vl 18446744073709551616 l1 % vl 18446744073709551616 l2)) % vl 18446744073709551616 l2 := Int.mul_emod ..
            unfold divR at eDA eDP ⊢
            rw [if_neg hz] at eDA eDP
            refine Evn.congr (fun k => by rw [if_neg (show ¬ nbit (vl 18446744073709551616 l2) = 0 by omega), if_neg hz, if_neg hz, if_neg hz, if_neg hz, eqS, eqM]) (Evn.bind eA (Evn.bind eDA (Evn.bind eP (Evn.bind eDP ?_))))
            have w1 := words_same' (dgs 18446744073709551616 ((vl 18446744073709551616 l0 % vl 18446744073709551616 l2 + vl 18446744073709551616 l1 % vl 18446744073709551616 l2) % vl 18446744073709551616 l2)) (by
              have := ws_len _ (Int.emod_nonneg (vl 18446744073709551616 l0 % vl 18446744073709551616 l2 + vl 18446744073709551616 l1 % vl 18446744073709551616 l2) hz) 20 (by have := Int.emod_lt_of_pos (vl 18446744073709551616 l0 % vl 18446744073709551616 l2 + vl 18446744073709551616 l1 % vl 18446744073709551616 l2) hz2; omega); omega)
            have w2 := words_same' (dgs 18446744073709551616 ((vl 18446744073709551616 l0 % vl 18446744073709551616 l2 * (vl 18446744073709551616 l1 % vl 18446744073709551616 l2)) % vl 18446744073709551616 l2)) (by
              have := ws_len _ (Int.emod_nonneg (vl 18446744073709551616 l0 % vl 18446744073709551616 l2 * (vl 18446744073709551616 l1 % vl 18446744073709551616 l2)) hz) 20 (by have := Int.emod_lt_of_pos (vl 18446744073709551616 l0 % vl 18446744073709551616 l2 * (vl 18446744073709551616 l1 % vl 18446744073709551616 l2)) hz2; omega); omega)
            refine Evn.congr (fun k => by rw [if_pos rfl, if_pos rfl, if_pos rfl, if_pos rfl, if_pos rfl, if_pos rfl]) (Evn.bind w1 ?_)
            refine Evn.congr (fun k => by rw [if_pos rfl]) (Evn.bind w2 ?_)
            exact Evn.congr (fun k => by rw [if_pos rfl]) awake_some
        refine Evn.congr (fun k => ?_) hJ
        unfold chicorylaw03_NumberLeaves.f
        rw [few_ev, few_ev, few_ev, decide_eq_true h0, decide_eq_true h1, decide_eq_true h2, bsome, if_pos rfl, bsome, if_pos rfl, bsome]; rfl
      · refine Evn.congr (fun k => ?_) hA
        unfold chicorylaw03_NumberLeaves.f
        rw [few_ev, few_ev, few_ev, decide_eq_true h0, decide_eq_true h1, decide_eq_false h2, bsome, if_pos rfl, bsome, if_pos rfl, bsome]; rfl
    · refine Evn.congr (fun k => ?_) hA
      unfold chicorylaw03_NumberLeaves.f
      rw [few_ev, few_ev, decide_eq_true h0, decide_eq_false h1, bsome, if_pos rfl, bsome, if_neg (by decide)]
  · refine Evn.congr (fun k => ?_) hA
    unfold chicorylaw03_NumberLeaves.f
    rw [few_ev, decide_eq_false h0, bsome, if_neg (by decide)]
end Go.Proofs.Ytdaehflffecllaa.Pure
