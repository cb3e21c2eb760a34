/- The law DigitsSum returns true whatever the input: N2 of its proof; no condition. (Joined by wip/shake.py.) -/
import Derived.Test.YtdaehflffecllaaMDigitsSumNx0
import Derived.Test.YtdaehflffecllaaMDigitsSumN0
import Derived.Test.YtdaehflffecllaaMDigitsSumN1
namespace Go.Proofs.Ytdaehflffecllaa.N
open Go.RowKit Go.Proofs.YtdaehflffecllaaW.PrintWords Go.Proofs.YtdaehflffecllaaW.PrintLast Go.Proofs.YtdaehflffecllaaW.PrintMore
attribute [local go_sem] max2_int min2_int max_two min_two max_three min_three max_four min_four   -- for this text's walks alone
set_option linter.unusedVariables false
set_option linter.unusedSimpArgs false
mutual
def chicorylaw07_DigitsSum.j0 : Nat → List Int → Int → Bool → Option (Bool)
  | 0, _, _, _ => none
  | k + 1, x0, x1, x23 => if x23 = true then ((chicorylaw07_awake.f k).bind fun t966 => (some t966)) else ((number_Of.f k x0).bind fun t967 => (chicorylaw07_DigitsSum.l0 k x0 x1 t967 1 1))
def chicorylaw07_DigitsSum.l0 : Nat → List Int → Int → List Int → Int → Int → Option (Bool)
  | 0, _, _, _, _, _ => none
  | k + 1, x0, x1, x5, x6, x7 => if x7 < x1 then (chicorylaw07_DigitsSum.l0 k x0 x1 x5 (wrap64 (2 * x6)) (wrap64 (x7 + 1))) else ((digits_Plain.f k x0 x1).bind fun bt970 => ((digits_Signed.f k x0 x1).bind fun bt974 => (if bt970.2 = 0 then (if bt974.2 = 0 then (if (bt974.1.length : Int) = (wrap64 ((bt970.1.length : Int) + 1)) then ((chicorylaw07_told.f k bt970.1 x1 x5).bind fun t978 => (if t978 = true then ((chicorylaw07_told.f k bt974.1 x1 x5).bind fun t979 => (chicorylaw07_DigitsSum.j2 k x6 bt970.1 bt974.1 (!t979))) else (chicorylaw07_DigitsSum.j2 k x6 bt970.1 bt974.1 true))) else (chicorylaw07_DigitsSum.j2 k x6 bt970.1 bt974.1 true)) else (chicorylaw07_DigitsSum.j2 k x6 bt970.1 bt974.1 true)) else (chicorylaw07_DigitsSum.j2 k x6 bt970.1 bt974.1 true))))
def chicorylaw07_DigitsSum.j2 : Nat → Int → List Int → List Int → Bool → Option (Bool)
  | 0, _, _, _, _ => none
  | k + 1, x6, x8, x10, x73 => if x73 = true then (some false) else (chicorylaw07_DigitsSum.l1 k x6 x8 x10 0)
def chicorylaw07_DigitsSum.l1 : Nat → Int → List Int → List Int → Int → Option (Bool)
  | 0, _, _, _, _ => none
  | k + 1, x6, x8, x10, x12 => if x12 < (x8.length : Int) then (if 0 ≤ x12 then (if (rd x8 x12) < 0 then (some false) else (if (rd x8 x12) ≥ (wrap64 (2 * x6)) then (some false) else (if x12 < (x10.length : Int) then (if (rd x10 x12) < (wrap64 (-x6)) then (some false) else (if (rd x10 x12) ≥ x6 then (some false) else (chicorylaw07_DigitsSum.l1 k x6 x8 x10 (wrap64 (x12 + 1))))) else (none)))) else (none)) else (if 0 ≤ (x8.length : Int) then (if (x8.length : Int) < (x10.length : Int) then (if (rd x10 (x8.length : Int)) = 0 then ((chicorylaw07_awake.f k).bind fun t985 => (some t985)) else (if (rd x10 (x8.length : Int)) = 1 then ((chicorylaw07_awake.f k).bind fun t987 => (some t987)) else (some false))) else (none)) else (none))
end
def chicorylaw07_DigitsSum.f (k : Nat) (l0 : List Int) (a1 : Int) : Option (Bool) := if (l0.length : Int) > 64 then (chicorylaw07_DigitsSum.j0 k l0 a1 true) else (if a1 < 2 then (chicorylaw07_DigitsSum.j0 k l0 a1 true) else (chicorylaw07_DigitsSum.j0 k l0 a1 (decide (a1 > 8))))
set_option maxHeartbeats 8000000 in
set_option maxRecDepth 100000 in
theorem chicorylaw07_DigitsSum.calls (k : Nat) (A0 : Option Addr) (c0 : Nat) (l0 : List Int) (a1 : Int) (w : World) (hr0 : Kd.C (Kd.int .u8) w A0 l0.length l0) (hc0 : l0.length ≤ c0) (h : chicorylaw07_DigitsSum.f k l0 a1 = some true) :
    Calls Try.prog 6 #[.slice A0 l0.length c0, .int .i64 a1] w fun e w' => e = .returned (.bool true) ∧ Below w.heap.size w w' := by
  have HR0 := Aside0.mk hr0
  have HC0 := Aside0.mk hc0
  clear hr0 hc0
  have HB := Aside0.mk (Below.refl w.heap.size w)
  have H : (if (l0.length : Int) > 64 then (chicorylaw07_DigitsSum.j0 k l0 a1 true) else (if a1 < 2 then (chicorylaw07_DigitsSum.j0 k l0 a1 true) else (chicorylaw07_DigitsSum.j0 k l0 a1 (decide (a1 > 8))))) = some true := h
  clear h
  have HC3 := Aside0.mk H
  clear H
  go_enter Try.func6, Try.ntmps6
  go_upto_region 1 with (fail)
  go_cut [23] (fun v23 wc => ∃ (kq : Nat) (x23_2 : Bool), v23 = .bool x23_2 ∧ Aside0 (chicorylaw07_DigitsSum.j0 kq l0 a1 x23_2 = some true) ∧ Aside0 (kq ≤ k) ∧ Aside0 (Below w.heap.size w wc))
  case first =>
    have H := HC3.out
    clear HC3
    by_cases c4 : (l0.length : Int) > 64
    · rw [if_pos c4] at H
      have c4b0 : decide (64 < (l0.length : Int)) = true := decide_eq_true c4
      have c4b1 : decide (64 < l0.length) = true := decide_eq_true (by omega)
      clear c4
      (first | rw [c4b0] | (simp only [i64_w, i32_w]; rw [c4b0]) | skip)
      have H' := Aside0.mk H
      clear H
      go_wp2
      go_meet
      case rel => exact ⟨_, (true), (by first | rfl | (simp; done) | (simp [*]; done)), H', ⟨by first | omega | exact Nat.le_refl _⟩, ⟨by repeat (first | (with_reducible first | exact HB.out | apply below_alloc | apply pw_below_drewN | apply below_drew1) | exact HB.out)⟩⟩
    · rw [if_neg c4] at H
      have c4b0 : decide (64 < (l0.length : Int)) = false := decide_eq_false c4
      have c4b1 : decide (64 < l0.length) = false := decide_eq_false (by omega)
      clear c4
      (first | rw [c4b0] | (simp only [i64_w, i32_w]; rw [c4b0]) | skip)
      by_cases c5 : a1 < 2
      · rw [if_pos c5] at H
        have c5b0 : decide (a1 < 2) = true := decide_eq_true c5
        clear c5
        have H' := Aside0.mk H
        clear H
        go_wp2
        go_meet
        case rel => exact ⟨_, (true), (by first | rfl | (simp; done) | (simp [*]; done)), H', ⟨by first | omega | exact Nat.le_refl _⟩, ⟨by repeat (first | (with_reducible first | exact HB.out | apply below_alloc | apply pw_below_drewN | apply below_drew1) | exact HB.out)⟩⟩
      · rw [if_neg c5] at H
        have c5b0 : decide (a1 < 2) = false := decide_eq_false c5
        clear c5
        have H' := Aside0.mk H
        clear H
        go_wp2
        go_meet
        case rel => exact ⟨_, (decide (a1 > 8)), (by first | rfl | (simp; done) | (simp [*]; done)), H', ⟨by first | omega | exact Nat.le_refl _⟩, ⟨by repeat (first | (with_reducible first | exact HB.out | apply below_alloc | apply pw_below_drewN | apply below_drew1) | exact HB.out)⟩⟩
  case rest =>
    clear HC3
    try clear p2
    try clear c4
    try clear c4b0
    try clear c4b1
    try clear c5
    try clear c5b0
    obtain ⟨kq, x23_2, rfl, HA, HJ2, HB⟩ := hcut
    cases kq with
    | zero => exact absurd HA.out (by simp [chicorylaw07_DigitsSum.j0])
    | succ kj2 =>
      have H := HA.out
      clear HA
      simp only [chicorylaw07_DigitsSum.j0] at H
      by_cases c6 : x23_2 = true
      · subst c6
        have H1 : ((chicorylaw07_awake.f kj2).bind fun t966 => (some t966)) = some true := by rw [if_pos rfl] at H; exact H
        clear H
        have H := H1
        clear H1
        replace H := Option.bind_eq_some_iff.mp H
        obtain ⟨t966, A70, H⟩ := H
        replace H : (some t966) = some true := H
        have A7 := Aside0.mk A70
        clear A70
        obtain rfl := Option.some.inj H
        go_wp2_with (first | ((with_reducible refine gate_callee (f := 24) rfl ?_); refine goesL_ (some 24) rfl rfl Try.func24 (by kernel_rfl) rfl #[] rfl (by (try simp only [List.map_toArray, List.map_cons, List.map_nil]); first | done | rfl | (simp only [List.length_drop, List.length_take]; rfl)) ?_; (with_reducible refine (chicorylaw07_awake.calls kj2  true _ A7.out).mono ?_); rintro e w8 ⟨rfl, hb⟩; refine ⟨_, rfl, ?_⟩; have n0_ := Aside0.mk (below_step (by repeat (first | (with_reducible first | exact HB.out | apply below_alloc | apply pw_below_drewN | apply below_drew1) | exact HB.out)) hb); clear HB; have HB := n0_; clear n0_; (try clear hb); (try clear hb2); (try clear hk); (try clear hi)))
        go_ret
        exact ⟨by first | rfl | (simp [errW_none, errW_some] <;> rfl) | (simp [*, errW_none, errW_some] <;> rfl), by repeat (first | (with_reducible first | exact HB.out | apply below_alloc | apply pw_below_drewN | apply below_drew1) | exact HB.out)⟩
      · replace c6 := Bool.eq_false_iff.mpr c6
        subst c6
        have H1 : ((number_Of.f kj2 l0).bind fun t967 => (chicorylaw07_DigitsSum.l0 kj2 l0 a1 t967 1 1)) = some true := by rw [if_neg (show ¬ (false = true) by decide)] at H; exact H
        clear H
        have H := H1
        clear H1
        replace H := Option.bind_eq_some_iff.mp H
        obtain ⟨t967, A90, H⟩ := H
        replace H : (chicorylaw07_DigitsSum.l0 kj2 l0 a1 t967 1 1) = some true := H
        have A9 := Aside0.mk A90
        clear A90
        have H' := Aside0.mk H
        clear H
        go_wp2_with (first | ((with_reducible refine gate_callee (f := 36) rfl ?_); refine goesL_ (some 26) rfl rfl Try.func36 (by kernel_rfl) rfl #[.slice A0 l0.length c0] rfl (by (try simp only [List.map_toArray, List.map_cons, List.map_nil]); first | done | rfl | (simp only [List.length_drop, List.length_take]; rfl)) ?_; (with_reducible refine (number_Of.calls kj2 _ _ l0 t967 _ ?side1 ?side2 A9.out).mono ?_); (case side1 => repeat (first | exact (Kd.C_below HR0.out HB.out) | (with_reducible refine Kd.C_alloc ?_ _) | (with_reducible refine Kd.C_drewN ?_ _) | (with_reducible refine Kd.C_drew ?_))); (case side2 => exact HC0.out); rintro e w10 ⟨v968, rfl, ho0, hb⟩; refine ⟨_, rfl, ?_⟩; have n0_ := Aside0.mk (Kd.V_lower (Kd.V_mono (ok' := fun k_ => True) ho0 (fun k_ hk_ => trivial)) (below_size (by repeat (first | (with_reducible first | exact HB.out | apply below_alloc | apply pw_below_drewN | apply below_drew1) | exact HB.out)))); have n1_ := Aside0.mk (below_step (by repeat (first | (with_reducible first | exact HB.out | apply below_alloc | apply pw_below_drewN | apply below_drew1) | exact HB.out)) hb); clear HB; have HO969 := n0_; have HB := n1_; clear n0_ n1_; (try clear hb); (try clear hb2); (try clear hk); (try clear hi); (try clear ho0)))
        go_loopg [6, 7] kj2 (fun kq v6 v7 w' => ∃ (x6_2 : Int) (x7_2 : Int), v6 = .int .i64 x6_2 ∧ v7 = .int .i64 x7_2 ∧ Aside0 (chicorylaw07_DigitsSum.l0 kq l0 a1 t967 x6_2 x7_2 = some true) ∧ Aside0 (kq ≤ kj2) ∧ Aside0 (Kd.V (Kd.int .u64) 62 w' w.heap.size (fun _ => True) v968 t967) ∧ Aside0 (Below w.heap.size w w'))
        case atStart => exact ⟨(1), (1), (by first | rfl | (simp; done) | (simp [*]; done)), (by first | rfl | (simp; done) | (simp [*]; done)), H', ⟨Nat.le_refl _⟩, ⟨by (with_reducible repeat (first | apply Kd.V_alloc | apply Kd.V_drewN | apply Kd.V_drew)); exact HO969.out⟩, ⟨by repeat (first | (with_reducible first | exact HB.out | apply below_alloc | apply pw_below_drewN | apply below_drew1) | exact HB.out)⟩⟩
        case round =>
          clear H'
          try clear c2
          try clear p2
          try clear c3
          try clear c4
          try clear c4b0
          try clear c4b1
          try clear c5
          try clear c5b0
          try clear c6
          try clear p2
          obtain ⟨x6_2, x7_2, rfl, rfl, HA, HK2, HO_5, HB⟩ := hrel
          cases gk with
          | zero => exact absurd HA.out (by simp [chicorylaw07_DigitsSum.l0])
          | succ k2 =>
            have H := HA.out
            clear HA
            simp only [chicorylaw07_DigitsSum.l0] at H
            by_cases c11 : x7_2 < a1
            · rw [if_pos c11] at H
              have c11b0 : decide (x7_2 < a1) = true := decide_eq_true c11
              clear c11
              have H' := Aside0.mk H
              clear H
              go_wp2
              go_roundg k2
              case measure => have := HJ2.out; have := HK2.out; omega
              case rel => exact ⟨(wrap64 (2 * x6_2)), (wrap64 (x7_2 + 1)), (by first | rfl | (simp; done) | (simp [*]; done)), (by first | rfl | (simp; done) | (simp [*]; done)), H', ⟨by have := HJ2.out; have := HK2.out; omega⟩, ⟨by (with_reducible repeat (first | apply Kd.V_alloc | apply Kd.V_drewN | apply Kd.V_drew)); exact HO_5.out⟩, ⟨by repeat (first | (with_reducible first | exact HB.out | apply below_alloc | apply pw_below_drewN | apply below_drew1) | exact HB.out)⟩⟩
            · rw [if_neg c11] at H
              have c11b0 : decide (x7_2 < a1) = false := decide_eq_false c11
              clear c11
              replace H := Option.bind_eq_some_iff.mp H
              obtain ⟨⟨t970, t971⟩, A120, H⟩ := H
              replace H : ((digits_Signed.f k2 l0 a1).bind fun bt974 => (if t971 = 0 then (if bt974.2 = 0 then (if (bt974.1.length : Int) = (wrap64 ((t970.length : Int) + 1)) then ((chicorylaw07_told.f k2 t970 a1 t967).bind fun t978 => (if t978 = true then ((chicorylaw07_told.f k2 bt974.1 a1 t967).bind fun t979 => (chicorylaw07_DigitsSum.j2 k2 x6_2 t970 bt974.1 (!t979))) else (chicorylaw07_DigitsSum.j2 k2 x6_2 t970 bt974.1 true))) else (chicorylaw07_DigitsSum.j2 k2 x6_2 t970 bt974.1 true)) else (chicorylaw07_DigitsSum.j2 k2 x6_2 t970 bt974.1 true)) else (chicorylaw07_DigitsSum.j2 k2 x6_2 t970 bt974.1 true))) = some true := H
              have A12 := Aside0.mk A120
              clear A120
              replace H := Option.bind_eq_some_iff.mp H
              obtain ⟨⟨t974, t975⟩, A130, H⟩ := H
              replace H : (if t971 = 0 then (if t975 = 0 then (if (t974.length : Int) = (wrap64 ((t970.length : Int) + 1)) then ((chicorylaw07_told.f k2 t970 a1 t967).bind fun t978 => (if t978 = true then ((chicorylaw07_told.f k2 t974 a1 t967).bind fun t979 => (chicorylaw07_DigitsSum.j2 k2 x6_2 t970 t974 (!t979))) else (chicorylaw07_DigitsSum.j2 k2 x6_2 t970 t974 true))) else (chicorylaw07_DigitsSum.j2 k2 x6_2 t970 t974 true)) else (chicorylaw07_DigitsSum.j2 k2 x6_2 t970 t974 true)) else (chicorylaw07_DigitsSum.j2 k2 x6_2 t970 t974 true)) = some true := H
              have A13 := Aside0.mk A130
              clear A130
              have HC14 := Aside0.mk H
              clear H
              go_upto_region 11 with (first | ((with_reducible refine gate_callee (f := 25) rfl ?_); refine goesL_ (some 37) rfl rfl Try.func25 (by kernel_rfl) rfl #[.slice A0 l0.length c0, .int .i64 a1] rfl (by (try simp only [List.map_toArray, List.map_cons, List.map_nil]); first | done | rfl | (simp only [List.length_drop, List.length_take]; rfl)) ?_; (with_reducible refine (digits_Plain.calls k2 _ _ l0 a1 t970 t971 _ ?side1 ?side2 A12.out).mono ?_); (case side1 => repeat (first | exact (Kd.C_below HR0.out HB.out) | (with_reducible refine Kd.C_alloc ?_ _) | (with_reducible refine Kd.C_drewN ?_ _) | (with_reducible refine Kd.C_drew ?_))); (case side2 => exact HC0.out); rintro e w15 ⟨v972, rfl, ho0, hb⟩; refine ⟨_, rfl, ?_⟩; have n0_ := Aside0.mk (Kd.V_elder' (by (with_reducible repeat (first | apply Kd.V_alloc | apply Kd.V_drewN | apply Kd.V_drew)); exact HO_5.out) (Kd.R_base ho0) hb); have n1_ := Aside0.mk (Kd.R_lower ho0 (below_size (by repeat (first | (with_reducible first | exact HB.out | apply below_alloc | apply pw_below_drewN | apply below_drew1) | exact HB.out)))); have n2_ := Aside0.mk (below_step (by repeat (first | (with_reducible first | exact HB.out | apply below_alloc | apply pw_below_drewN | apply below_drew1) | exact HB.out)) hb); clear HO_5; clear HB; have HO_5 := n0_; have HO973 := n1_; have HB := n2_; clear n0_ n1_ n2_; (try clear hb); (try clear hb2); (try clear hk); (try clear hi); (try clear ho0)) | ((with_reducible refine gate_callee (f := 29) rfl ?_); refine goesL_ (some 43) rfl rfl Try.func29 (by kernel_rfl) rfl #[.slice A0 l0.length c0, .int .i64 a1] rfl (by (try simp only [List.map_toArray, List.map_cons, List.map_nil]); first | done | rfl | (simp only [List.length_drop, List.length_take]; rfl)) ?_; (with_reducible refine (digits_Signed.calls k2 _ _ l0 a1 t974 t975 _ ?side1 ?side2 A13.out).mono ?_); (case side1 => repeat (first | exact (Kd.C_below HR0.out HB.out) | (with_reducible refine Kd.C_alloc ?_ _) | (with_reducible refine Kd.C_drewN ?_ _) | (with_reducible refine Kd.C_drew ?_))); (case side2 => exact HC0.out); rintro e w16 ⟨v976, rfl, ho0, hb⟩; refine ⟨_, rfl, ?_⟩; have n0_ := Aside0.mk (Kd.V_elder' (by (with_reducible repeat (first | apply Kd.V_alloc | apply Kd.V_drewN | apply Kd.V_drew)); exact HO_5.out) (Kd.R_base ho0) hb); have n1_ := Aside0.mk (Kd.R_elder' (by (with_reducible repeat (first | apply Kd.R_alloc | apply Kd.R_drewN | apply Kd.R_drew)); exact HO973.out) (Kd.R_base ho0) hb); have n2_ := Aside0.mk (Kd.R_lower (Kd.R_new' ho0 (Kd.R_lt (by (with_reducible repeat (first | apply Kd.R_alloc | apply Kd.R_drewN | apply Kd.R_drew)); exact HO973.out))) (below_size (by repeat (first | (with_reducible first | exact HB.out | apply below_alloc | apply pw_below_drewN | apply below_drew1) | exact HB.out)))); have n3_ := Aside0.mk (below_step (by repeat (first | (with_reducible first | exact HB.out | apply below_alloc | apply pw_below_drewN | apply below_drew1) | exact HB.out)) hb); clear HO_5; clear HO973; clear HB; have HO_5 := n0_; have HO973 := n1_; have HO977 := n2_; have HB := n3_; clear n0_ n1_ n2_ n3_; (try clear hb); (try clear hb2); (try clear hk); (try clear hi); (try clear ho0)))
              (try simp only [Act.put, List.setIfInBounds_toArray, List.set_cons_zero, List.set_cons_succ])
              go_cut [73] (fun v73 wc => ∃ (kq : Nat) (x73_13 : Bool), v73 = .bool x73_13 ∧ Aside0 (chicorylaw07_DigitsSum.j2 kq x6_2 t970 t974 x73_13 = some true) ∧ Aside0 (kq ≤ k2) ∧ Aside0 (Kd.R (Kd.int .i64) 3 wc w.heap.size (fun k_ => some k_ ≠ (v976 : Value).ownBlock) v972 t970) ∧ Aside0 (Kd.R (Kd.int .i64) 3 wc w.heap.size (fun k_ => some k_ ≠ (v972 : Value).ownBlock) v976 t974) ∧ Aside0 (Below w.heap.size w wc))
              case first =>
                have H := HC14.out
                clear HC14
                by_cases c17 : t971 = 0
                · rw [if_pos c17] at H
                  have c17b0 : (t971 == 0) = true := beq_iff_eq.mpr c17
                  have c17b1 : (t971 != 0) = false := bne_eq_false_iff_eq.mpr c17
                  clear c17
                  (first | rw [c17b0] | (simp only [i64_w, i32_w]; rw [c17b0]) | skip)
                  by_cases c18 : t975 = 0
                  · rw [if_pos c18] at H
                    have c18b0 : (t975 == 0) = true := beq_iff_eq.mpr c18
                    have c18b1 : (t975 != 0) = false := bne_eq_false_iff_eq.mpr c18
                    clear c18
                    by_cases c19 : (t974.length : Int) = (wrap64 ((t970.length : Int) + 1))
                    · rw [if_pos c19] at H
                      have c19b0 : ((t974.length : Int) == (wrap64 ((t970.length : Int) + 1))) = true := beq_iff_eq.mpr c19
                      have c19b1 : ((t974.length : Int) != (wrap64 ((t970.length : Int) + 1))) = false := bne_eq_false_iff_eq.mpr c19
                      clear c19
                      replace H := Option.bind_eq_some_iff.mp H
                      obtain ⟨t978, A200, H⟩ := H
                      replace H : (if t978 = true then ((chicorylaw07_told.f k2 t974 a1 t967).bind fun t979 => (chicorylaw07_DigitsSum.j2 k2 x6_2 t970 t974 (!t979))) else (chicorylaw07_DigitsSum.j2 k2 x6_2 t970 t974 true)) = some true := H
                      have A20 := Aside0.mk A200
                      clear A200
                      by_cases c21 : t978 = true
                      · subst c21
                        have H1 : ((chicorylaw07_told.f k2 t974 a1 t967).bind fun t979 => (chicorylaw07_DigitsSum.j2 k2 x6_2 t970 t974 (!t979))) = some true := by rw [if_pos rfl] at H; exact H
                        clear H
                        have H := H1
                        clear H1
                        replace H := Option.bind_eq_some_iff.mp H
                        obtain ⟨t979, A220, H⟩ := H
                        replace H : (chicorylaw07_DigitsSum.j2 k2 x6_2 t970 t974 (!t979)) = some true := H
                        have A22 := Aside0.mk A220
                        clear A220
                        have H' := Aside0.mk H
                        clear H
                        obtain ⟨Ao23, co23, eo23⟩ := Kd.R_slice HO977.out
                        subst eo23
                        obtain ⟨Ao24, co24, eo24⟩ := Kd.R_slice HO973.out
                        subst eo24
                        obtain ⟨Ao25, co25, eo25⟩ := Kd.V_slice HO_5.out
                        subst eo25
                        go_wp2_with (first | (go_at_call 38; (with_reducible refine (chicorylaw07_told.calls k2 _ _ t970 a1 _ _ t967 true _ ?side1 ?side2 ?side3 ?side4 A20.out).mono ?_); (case side1 => repeat (first | exact (Kd.R_reads' HO973.out).2.2 | (with_reducible refine Kd.C_alloc ?_ _) | (with_reducible refine Kd.C_drewN ?_ _) | (with_reducible refine Kd.C_drew ?_))); (case side2 => exact (Kd.R_reads' HO973.out).2.1); (case side3 => repeat (first | exact (Kd.V_reads' HO_5.out).2.2 | (with_reducible refine Kd.C_alloc ?_ _) | (with_reducible refine Kd.C_drewN ?_ _) | (with_reducible refine Kd.C_drew ?_))); (case side4 => exact (Kd.V_reads' HO_5.out).2.1); rintro e w26 ⟨rfl, hb⟩; have n0_ := Aside0.mk (Kd.V_below (by (with_reducible repeat (first | apply Kd.V_alloc | apply Kd.V_drewN | apply Kd.V_drew)); exact HO_5.out) hb); have n1_ := Aside0.mk (Kd.R_below (by (with_reducible repeat (first | apply Kd.R_alloc | apply Kd.R_drewN | apply Kd.R_drew)); exact HO973.out) hb); have n2_ := Aside0.mk (Kd.R_below (by (with_reducible repeat (first | apply Kd.R_alloc | apply Kd.R_drewN | apply Kd.R_drew)); exact HO977.out) hb); have n3_ := Aside0.mk (below_step (by repeat (first | (with_reducible first | exact HB.out | apply below_alloc | apply pw_below_drewN | apply below_drew1) | exact HB.out)) hb); clear HO_5; clear HO973; clear HO977; clear HB; have HO_5 := n0_; have HO973 := n1_; have HO977 := n2_; have HB := n3_; clear n0_ n1_ n2_ n3_; (try clear hb); (try clear hb2); (try clear hk); (try clear hi)) | (go_at_call 38; (with_reducible refine (chicorylaw07_told.calls k2 _ _ t974 a1 _ _ t967 t979 _ ?side1 ?side2 ?side3 ?side4 A22.out).mono ?_); (case side1 => repeat (first | exact (Kd.R_reads' HO977.out).2.2 | (with_reducible refine Kd.C_alloc ?_ _) | (with_reducible refine Kd.C_drewN ?_ _) | (with_reducible refine Kd.C_drew ?_))); (case side2 => exact (Kd.R_reads' HO977.out).2.1); (case side3 => repeat (first | exact (Kd.V_reads' HO_5.out).2.2 | (with_reducible refine Kd.C_alloc ?_ _) | (with_reducible refine Kd.C_drewN ?_ _) | (with_reducible refine Kd.C_drew ?_))); (case side4 => exact (Kd.V_reads' HO_5.out).2.1); rintro e w27 ⟨rfl, hb⟩; have n0_ := Aside0.mk (Kd.V_below (by (with_reducible repeat (first | apply Kd.V_alloc | apply Kd.V_drewN | apply Kd.V_drew)); exact HO_5.out) hb); have n1_ := Aside0.mk (Kd.R_below (by (with_reducible repeat (first | apply Kd.R_alloc | apply Kd.R_drewN | apply Kd.R_drew)); exact HO973.out) hb); have n2_ := Aside0.mk (Kd.R_below (by (with_reducible repeat (first | apply Kd.R_alloc | apply Kd.R_drewN | apply Kd.R_drew)); exact HO977.out) hb); have n3_ := Aside0.mk (below_step (by repeat (first | (with_reducible first | exact HB.out | apply below_alloc | apply pw_below_drewN | apply below_drew1) | exact HB.out)) hb); clear HO_5; clear HO973; clear HO977; clear HB; have HO_5 := n0_; have HO973 := n1_; have HO977 := n2_; have HB := n3_; clear n0_ n1_ n2_ n3_; (try clear hb); (try clear hb2); (try clear hk); (try clear hi)))
                        go_meet
                        case rel => exact ⟨_, (!t979), (by first | rfl | (simp; done) | (simp [*]; done)), H', ⟨by have := HJ2.out; have := HK2.out; first | omega | exact Nat.le_refl _⟩, ⟨by (with_reducible repeat (first | apply Kd.R_alloc | apply Kd.R_drewN | apply Kd.R_drew)); exact Kd.R_mono HO973.out (fun _ hk => hk.2)⟩, ⟨by (with_reducible repeat (first | apply Kd.R_alloc | apply Kd.R_drewN | apply Kd.R_drew)); exact Kd.R_mono HO977.out (fun _ hk => hk.2)⟩, ⟨by repeat (first | (with_reducible first | exact HB.out | apply below_alloc | apply pw_below_drewN | apply below_drew1) | exact HB.out)⟩⟩
                      · replace c21 := Bool.eq_false_iff.mpr c21
                        subst c21
                        have H1 : (chicorylaw07_DigitsSum.j2 k2 x6_2 t970 t974 true) = some true := by rw [if_neg (show ¬ (false = true) by decide)] at H; exact H
                        clear H
                        have H := H1
                        clear H1
                        have H' := Aside0.mk H
                        clear H
                        obtain ⟨Ao28, co28, eo28⟩ := Kd.R_slice HO977.out
                        subst eo28
                        obtain ⟨Ao29, co29, eo29⟩ := Kd.R_slice HO973.out
                        subst eo29
                        obtain ⟨Ao30, co30, eo30⟩ := Kd.V_slice HO_5.out
                        subst eo30
                        go_wp2_with (first | (go_at_call 38; (with_reducible refine (chicorylaw07_told.calls k2 _ _ t970 a1 _ _ t967 false _ ?side1 ?side2 ?side3 ?side4 A20.out).mono ?_); (case side1 => repeat (first | exact (Kd.R_reads' HO973.out).2.2 | (with_reducible refine Kd.C_alloc ?_ _) | (with_reducible refine Kd.C_drewN ?_ _) | (with_reducible refine Kd.C_drew ?_))); (case side2 => exact (Kd.R_reads' HO973.out).2.1); (case side3 => repeat (first | exact (Kd.V_reads' HO_5.out).2.2 | (with_reducible refine Kd.C_alloc ?_ _) | (with_reducible refine Kd.C_drewN ?_ _) | (with_reducible refine Kd.C_drew ?_))); (case side4 => exact (Kd.V_reads' HO_5.out).2.1); rintro e w31 ⟨rfl, hb⟩; have n0_ := Aside0.mk (Kd.V_below (by (with_reducible repeat (first | apply Kd.V_alloc | apply Kd.V_drewN | apply Kd.V_drew)); exact HO_5.out) hb); have n1_ := Aside0.mk (Kd.R_below (by (with_reducible repeat (first | apply Kd.R_alloc | apply Kd.R_drewN | apply Kd.R_drew)); exact HO973.out) hb); have n2_ := Aside0.mk (Kd.R_below (by (with_reducible repeat (first | apply Kd.R_alloc | apply Kd.R_drewN | apply Kd.R_drew)); exact HO977.out) hb); have n3_ := Aside0.mk (below_step (by repeat (first | (with_reducible first | exact HB.out | apply below_alloc | apply pw_below_drewN | apply below_drew1) | exact HB.out)) hb); clear HO_5; clear HO973; clear HO977; clear HB; have HO_5 := n0_; have HO973 := n1_; have HO977 := n2_; have HB := n3_; clear n0_ n1_ n2_ n3_; (try clear hb); (try clear hb2); (try clear hk); (try clear hi)))
                        go_meet
                        case rel => exact ⟨_, (true), (by first | rfl | (simp; done) | (simp [*]; done)), H', ⟨by have := HJ2.out; have := HK2.out; first | omega | exact Nat.le_refl _⟩, ⟨by (with_reducible repeat (first | apply Kd.R_alloc | apply Kd.R_drewN | apply Kd.R_drew)); exact Kd.R_mono HO973.out (fun _ hk => hk.2)⟩, ⟨by (with_reducible repeat (first | apply Kd.R_alloc | apply Kd.R_drewN | apply Kd.R_drew)); exact Kd.R_mono HO977.out (fun _ hk => hk.2)⟩, ⟨by repeat (first | (with_reducible first | exact HB.out | apply below_alloc | apply pw_below_drewN | apply below_drew1) | exact HB.out)⟩⟩
                    · rw [if_neg c19] at H
                      have c19b0 : ((t974.length : Int) == (wrap64 ((t970.length : Int) + 1))) = false := beq_eq_false_iff_ne.mpr c19
                      have c19b1 : ((t974.length : Int) != (wrap64 ((t970.length : Int) + 1))) = true := bne_iff_ne.mpr c19
                      have H' := Aside0.mk H
                      clear H
                      obtain ⟨Ao32, co32, eo32⟩ := Kd.R_slice HO977.out
                      subst eo32
                      obtain ⟨Ao33, co33, eo33⟩ := Kd.R_slice HO973.out
                      subst eo33
                      go_wp2
                      go_meet
                      case rel => exact ⟨_, (true), (by first | rfl | (simp; done) | (simp [*]; done)), H', ⟨by have := HJ2.out; have := HK2.out; first | omega | exact Nat.le_refl _⟩, ⟨by (with_reducible repeat (first | apply Kd.R_alloc | apply Kd.R_drewN | apply Kd.R_drew)); exact Kd.R_mono HO973.out (fun _ hk => hk.2)⟩, ⟨by (with_reducible repeat (first | apply Kd.R_alloc | apply Kd.R_drewN | apply Kd.R_drew)); exact Kd.R_mono HO977.out (fun _ hk => hk.2)⟩, ⟨by repeat (first | (with_reducible first | exact HB.out | apply below_alloc | apply pw_below_drewN | apply below_drew1) | exact HB.out)⟩⟩
                  · rw [if_neg c18] at H
                    have c18b0 : (t975 == 0) = false := beq_eq_false_iff_ne.mpr c18
                    have c18b1 : (t975 != 0) = true := bne_iff_ne.mpr c18
                    have H' := Aside0.mk H
                    clear H
                    go_wp2
                    go_meet
                    case rel => exact ⟨_, (true), (by first | rfl | (simp; done) | (simp [*]; done)), H', ⟨by have := HJ2.out; have := HK2.out; first | omega | exact Nat.le_refl _⟩, ⟨by (with_reducible repeat (first | apply Kd.R_alloc | apply Kd.R_drewN | apply Kd.R_drew)); exact Kd.R_mono HO973.out (fun _ hk => hk.2)⟩, ⟨by (with_reducible repeat (first | apply Kd.R_alloc | apply Kd.R_drewN | apply Kd.R_drew)); exact Kd.R_mono HO977.out (fun _ hk => hk.2)⟩, ⟨by repeat (first | (with_reducible first | exact HB.out | apply below_alloc | apply pw_below_drewN | apply below_drew1) | exact HB.out)⟩⟩
                · rw [if_neg c17] at H
                  have c17b0 : (t971 == 0) = false := beq_eq_false_iff_ne.mpr c17
                  have c17b1 : (t971 != 0) = true := bne_iff_ne.mpr c17
                  (first | rw [c17b0] | (simp only [i64_w, i32_w]; rw [c17b0]) | skip)
                  have H' := Aside0.mk H
                  clear H
                  go_wp2
                  go_meet
                  case rel => exact ⟨_, (true), (by first | rfl | (simp; done) | (simp [*]; done)), H', ⟨by have := HJ2.out; have := HK2.out; first | omega | exact Nat.le_refl _⟩, ⟨by (with_reducible repeat (first | apply Kd.R_alloc | apply Kd.R_drewN | apply Kd.R_drew)); exact Kd.R_mono HO973.out (fun _ hk => hk.2)⟩, ⟨by (with_reducible repeat (first | apply Kd.R_alloc | apply Kd.R_drewN | apply Kd.R_drew)); exact Kd.R_mono HO977.out (fun _ hk => hk.2)⟩, ⟨by repeat (first | (with_reducible first | exact HB.out | apply below_alloc | apply pw_below_drewN | apply below_drew1) | exact HB.out)⟩⟩
              case rest =>
                clear HC14
                try clear c1
                try clear c2
                try clear p2
                try clear c3
                try clear c4
                try clear c4b0
                try clear c4b1
                try clear c5
                try clear c5b0
                try clear c6
                try clear p6
                try clear c11
                try clear c11b0
                try clear c17
                try clear c17b0
                try clear c17b1
                try clear c18
                try clear c18b0
                try clear c18b1
                try clear c19
                try clear c19b0
                try clear c19b1
                try clear c21
                try clear c24
                try clear c25
                try clear c29
                try clear p2
                obtain ⟨kq, x73_13, rfl, HA, HJ13, HO_8, HO_10, HB⟩ := hcut
                cases kq with
                | zero => exact absurd HA.out (by simp [chicorylaw07_DigitsSum.j2])
                | succ kj13 =>
                  have H := HA.out
                  clear HA
                  simp only [chicorylaw07_DigitsSum.j2] at H
                  by_cases c34 : x73_13 = true
                  · subst c34
                    have H1 : (some false) = some true := by rw [if_pos rfl] at H; exact H
                    clear H
                    have H := H1
                    clear H1
                    exact absurd H (by simp)
                  · replace c34 := Bool.eq_false_iff.mpr c34
                    subst c34
                    have H1 : (chicorylaw07_DigitsSum.l1 kj13 x6_2 t970 t974 0) = some true := by rw [if_neg (show ¬ (false = true) by decide)] at H; exact H
                    clear H
                    have H := H1
                    clear H1
                    have H' := Aside0.mk H
                    clear H
                    go_wp2
                    go_loopg [12] kj13 (fun kq v12 w' => ∃ (x12_4 : Int), v12 = .int .i64 x12_4 ∧ Aside0 (chicorylaw07_DigitsSum.l1 kq x6_2 t970 t974 x12_4 = some true) ∧ Aside0 (kq ≤ kj13) ∧ Aside0 (Kd.R (Kd.int .i64) 3 w' w.heap.size (fun k_ => some k_ ≠ (v976 : Value).ownBlock) v972 t970) ∧ Aside0 (Kd.R (Kd.int .i64) 3 w' w.heap.size (fun k_ => some k_ ≠ (v972 : Value).ownBlock) v976 t974) ∧ Aside0 (Below w.heap.size w w'))
                    case atStart => exact ⟨(0), (by first | rfl | (simp; done) | (simp [*]; done)), H', ⟨Nat.le_refl _⟩, ⟨by (with_reducible repeat (first | apply Kd.R_alloc | apply Kd.R_drewN | apply Kd.R_drew)); exact HO_8.out⟩, ⟨by (with_reducible repeat (first | apply Kd.R_alloc | apply Kd.R_drewN | apply Kd.R_drew)); exact HO_10.out⟩, ⟨by repeat (first | (with_reducible first | exact HB.out | apply below_alloc | apply pw_below_drewN | apply below_drew1) | exact HB.out)⟩⟩
                    case round =>
                      clear H'
                      try clear c1
                      try clear c2
                      try clear p2
                      try clear c3
                      try clear c4
                      try clear c4b0
                      try clear c4b1
                      try clear c5
                      try clear c5b0
                      try clear c6
                      try clear p6
                      try clear c11
                      try clear c11b0
                      try clear c17
                      try clear c17b0
                      try clear c17b1
                      try clear c18
                      try clear c18b0
                      try clear c18b1
                      try clear c19
                      try clear c19b0
                      try clear c19b1
                      try clear c21
                      try clear c24
                      try clear c25
                      try clear c29
                      try clear c34
                      try clear p2
                      try clear p6
                      obtain ⟨x12_4, rfl, HA, HK4, HO_8, HO_10, HB⟩ := hrel
                      cases gk with
                      | zero => exact absurd HA.out (by simp [chicorylaw07_DigitsSum.l1])
                      | succ k4 =>
                        have H := HA.out
                        clear HA
                        simp only [chicorylaw07_DigitsSum.l1] at H
                        by_cases c35 : x12_4 < (t970.length : Int)
                        · rw [if_pos c35] at H
                          have c35b0 : decide (x12_4 < (t970.length : Int)) = true := decide_eq_true c35
                          clear c35
                          by_cases c36 : 0 ≤ x12_4
                          · rw [if_pos c36] at H
                            have c36b0 : decide (0 ≤ x12_4) = true := decide_eq_true c36
                            clear c36
                            by_cases c37 : (rd t970 x12_4) < 0
                            · rw [if_pos c37] at H
                              have c37b0 : decide ((rd t970 x12_4) < 0) = true := decide_eq_true c37
                              clear c37
                              exact absurd H (by simp)
                            · rw [if_neg c37] at H
                              have c37b0 : decide ((rd t970 x12_4) < 0) = false := decide_eq_false c37
                              clear c37
                              by_cases c39 : (rd t970 x12_4) ≥ (wrap64 (2 * x6_2))
                              · rw [if_pos c39] at H
                                have c39b0 : decide ((wrap64 (2 * x6_2)) ≤ (rd t970 x12_4)) = true := decide_eq_true c39
                                clear c39
                                exact absurd H (by simp)
                              · rw [if_neg c39] at H
                                have c39b0 : decide ((wrap64 (2 * x6_2)) ≤ (rd t970 x12_4)) = false := decide_eq_false c39
                                clear c39
                                by_cases c41 : x12_4 < (t974.length : Int)
                                · rw [if_pos c41] at H
                                  have c41b0 : decide (x12_4 < (t974.length : Int)) = true := decide_eq_true c41
                                  clear c41
                                  by_cases c42 : (rd t974 x12_4) < (wrap64 (-x6_2))
                                  · rw [if_pos c42] at H
                                    have c42b0 : decide ((rd t974 x12_4) < (wrap64 (-x6_2))) = true := decide_eq_true c42
                                    clear c42
                                    exact absurd H (by simp)
                                  · rw [if_neg c42] at H
                                    have c42b0 : decide ((rd t974 x12_4) < (wrap64 (-x6_2))) = false := decide_eq_false c42
                                    clear c42
                                    by_cases c45 : (rd t974 x12_4) ≥ x6_2
                                    · rw [if_pos c45] at H
                                      have c45b0 : decide (x6_2 ≤ (rd t974 x12_4)) = true := decide_eq_true c45
                                      clear c45
                                      exact absurd H (by simp)
                                    · rw [if_neg c45] at H
                                      have c45b0 : decide (x6_2 ≤ (rd t974 x12_4)) = false := decide_eq_false c45
                                      clear c45
                                      have H' := Aside0.mk H
                                      clear H
                                      obtain ⟨Ao48, co48, eo48⟩ := Kd.R_slice HO_8.out
                                      subst eo48
                                      have p980 : 0 ≤ (x12_4 : Int) := of_decide_eq_true (by first | (with_reducible assumption) | assumption)
                                      have q980 : x12_4 < (t970.length : Int) := of_decide_eq_true (by first | (with_reducible assumption) | assumption)
                                      obtain ⟨ad980, e980, hx980_0⟩ := Kd.at_int (Kd.R_reads' HO_8.out).2.2 x12_4 p980 q980
                                      cases e980
                                      replace p980 := eq_true p980
                                      replace q980 := eq_true q980
                                      have p981 : 0 ≤ (x12_4 : Int) := of_decide_eq_true (by first | (with_reducible assumption) | assumption)
                                      have q981 : x12_4 < (t970.length : Int) := of_decide_eq_true (by first | (with_reducible assumption) | assumption)
                                      obtain ⟨ad981, e981, hx981_0⟩ := Kd.at_int (Kd.R_reads' HO_8.out).2.2 x12_4 p981 q981
                                      obtain rfl : ad980 = ad981 := (by injection e981)
                                      replace p981 := eq_true p981
                                      replace q981 := eq_true q981
                                      obtain ⟨Ao49, co49, eo49⟩ := Kd.R_slice HO_10.out
                                      subst eo49
                                      have p982 : 0 ≤ (x12_4 : Int) := of_decide_eq_true (by first | (with_reducible assumption) | assumption)
                                      have q982 : x12_4 < (t974.length : Int) := of_decide_eq_true (by first | (with_reducible assumption) | assumption)
                                      obtain ⟨ad982, e982, hx982_0⟩ := Kd.at_int (Kd.R_reads' HO_10.out).2.2 x12_4 p982 q982
                                      cases e982
                                      replace p982 := eq_true p982
                                      replace q982 := eq_true q982
                                      have p983 : 0 ≤ (x12_4 : Int) := of_decide_eq_true (by first | (with_reducible assumption) | assumption)
                                      have q983 : x12_4 < (t974.length : Int) := of_decide_eq_true (by first | (with_reducible assumption) | assumption)
                                      obtain ⟨ad983, e983, hx983_0⟩ := Kd.at_int (Kd.R_reads' HO_10.out).2.2 x12_4 p983 q983
                                      obtain rfl : ad982 = ad983 := (by injection e983)
                                      replace p983 := eq_true p983
                                      replace q983 := eq_true q983
                                      go_wp2
                                      go_roundg k4
                                      case measure => have := HJ2.out; have := HK2.out; have := HJ13.out; have := HK4.out; omega
                                      case rel => exact ⟨(wrap64 (x12_4 + 1)), (by first | rfl | (simp; done) | (simp [*]; done)), H', ⟨by have := HJ2.out; have := HK2.out; have := HJ13.out; have := HK4.out; omega⟩, ⟨by (with_reducible repeat (first | apply Kd.R_alloc | apply Kd.R_drewN | apply Kd.R_drew)); exact HO_8.out⟩, ⟨by (with_reducible repeat (first | apply Kd.R_alloc | apply Kd.R_drewN | apply Kd.R_drew)); exact HO_10.out⟩, ⟨by repeat (first | (with_reducible first | exact HB.out | apply below_alloc | apply pw_below_drewN | apply below_drew1) | exact HB.out)⟩⟩
                                · rw [if_neg c41] at H
                                  exact absurd H (by simp)
                          · rw [if_neg c36] at H
                            exact absurd H (by simp)
                        · rw [if_neg c35] at H
                          have c35b0 : decide (x12_4 < (t970.length : Int)) = false := decide_eq_false c35
                          clear c35
                          by_cases c50 : 0 ≤ (t970.length : Int)
                          · rw [if_pos c50] at H
                            have c50b0 : decide (0 ≤ (t970.length : Int)) = true := decide_eq_true c50
                            have c50b1 : decide (0 ≤ t970.length) = true := decide_eq_true (by omega)
                            clear c50
                            by_cases c51 : (t970.length : Int) < (t974.length : Int)
                            · rw [if_pos c51] at H
                              have c51b0 : decide ((t970.length : Int) < (t974.length : Int)) = true := decide_eq_true c51
                              have c51b1 : decide (t970.length < t974.length) = true := decide_eq_true (Int.ofNat_lt.mp c51)
                              clear c51
                              by_cases c52 : (rd t974 (t970.length : Int)) = 0
                              · rw [if_pos c52] at H
                                have c52b0 : ((rd t974 (t970.length : Int)) == 0) = true := beq_iff_eq.mpr c52
                                have c52b1 : ((rd t974 (t970.length : Int)) != 0) = false := bne_eq_false_iff_eq.mpr c52
                                clear c52
                                replace H := Option.bind_eq_some_iff.mp H
                                obtain ⟨t985, A530, H⟩ := H
                                replace H : (some t985) = some true := H
                                have A53 := Aside0.mk A530
                                clear A530
                                obtain rfl := Option.some.inj H
                                obtain ⟨Ao54, co54, eo54⟩ := Kd.R_slice HO_8.out
                                subst eo54
                                obtain ⟨Ao55, co55, eo55⟩ := Kd.R_slice HO_10.out
                                subst eo55
                                have p984 : 0 ≤ ((t970.length : Int) : Int) := of_decide_eq_true (by first | (with_reducible assumption) | assumption)
                                have q984 : (t970.length : Int) < (t974.length : Int) := of_decide_eq_true (by first | (with_reducible assumption) | assumption)
                                obtain ⟨ad984, e984, hx984_0⟩ := Kd.at_int (Kd.R_reads' HO_10.out).2.2 (t970.length : Int) p984 q984
                                cases e984
                                (try simp only [Go.IntWalk.toNatUp] at hx984_0)
                                replace p984 := eq_true p984
                                replace q984 := eq_true q984
                                go_wp2_with (first | (go_at_call 24; (with_reducible refine (chicorylaw07_awake.calls k4  true _ A53.out).mono ?_); rintro e w56 ⟨rfl, hb⟩; have n0_ := Aside0.mk (Kd.R_below (by (with_reducible repeat (first | apply Kd.R_alloc | apply Kd.R_drewN | apply Kd.R_drew)); exact HO_8.out) hb); have n1_ := Aside0.mk (Kd.R_below (by (with_reducible repeat (first | apply Kd.R_alloc | apply Kd.R_drewN | apply Kd.R_drew)); exact HO_10.out) hb); have n2_ := Aside0.mk (below_step (by repeat (first | (with_reducible first | exact HB.out | apply below_alloc | apply pw_below_drewN | apply below_drew1) | exact HB.out)) hb); clear HO_8; clear HO_10; clear HB; have HO_8 := n0_; have HO_10 := n1_; have HB := n2_; clear n0_ n1_ n2_; (try clear hb); (try clear hb2); (try clear hk); (try clear hi)))
                                go_ret
                                exact ⟨by first | rfl | (simp [errW_none, errW_some] <;> rfl) | (simp [*, errW_none, errW_some] <;> rfl), by repeat (first | (with_reducible first | exact HB.out | apply below_alloc | apply pw_below_drewN | apply below_drew1) | exact HB.out)⟩
                              · rw [if_neg c52] at H
                                have c52b0 : ((rd t974 (t970.length : Int)) == 0) = false := beq_eq_false_iff_ne.mpr c52
                                have c52b1 : ((rd t974 (t970.length : Int)) != 0) = true := bne_iff_ne.mpr c52
                                by_cases c57 : (rd t974 (t970.length : Int)) = 1
                                · rw [if_pos c57] at H
                                  have c57b0 : ((rd t974 (t970.length : Int)) == 1) = true := beq_iff_eq.mpr c57
                                  have c57b1 : ((rd t974 (t970.length : Int)) != 1) = false := bne_eq_false_iff_eq.mpr c57
                                  clear c57
                                  replace H := Option.bind_eq_some_iff.mp H
                                  obtain ⟨t987, A580, H⟩ := H
                                  replace H : (some t987) = some true := H
                                  have A58 := Aside0.mk A580
                                  clear A580
                                  obtain rfl := Option.some.inj H
                                  obtain ⟨Ao59, co59, eo59⟩ := Kd.R_slice HO_8.out
                                  subst eo59
                                  obtain ⟨Ao60, co60, eo60⟩ := Kd.R_slice HO_10.out
                                  subst eo60
                                  have p984 : 0 ≤ ((t970.length : Int) : Int) := of_decide_eq_true (by first | (with_reducible assumption) | assumption)
                                  have q984 : (t970.length : Int) < (t974.length : Int) := of_decide_eq_true (by first | (with_reducible assumption) | assumption)
                                  obtain ⟨ad984, e984, hx984_0⟩ := Kd.at_int (Kd.R_reads' HO_10.out).2.2 (t970.length : Int) p984 q984
                                  cases e984
                                  (try simp only [Go.IntWalk.toNatUp] at hx984_0)
                                  replace p984 := eq_true p984
                                  replace q984 := eq_true q984
                                  have p986 : 0 ≤ ((t970.length : Int) : Int) := of_decide_eq_true (by first | (with_reducible assumption) | assumption)
                                  have q986 : (t970.length : Int) < (t974.length : Int) := of_decide_eq_true (by first | (with_reducible assumption) | assumption)
                                  obtain ⟨ad986, e986, hx986_0⟩ := Kd.at_int (Kd.R_reads' HO_10.out).2.2 (t970.length : Int) p986 q986
                                  obtain rfl : ad984 = ad986 := (by injection e986)
                                  (try simp only [Go.IntWalk.toNatUp] at hx986_0)
                                  replace p986 := eq_true p986
                                  replace q986 := eq_true q986
                                  go_wp2_with (first | (go_at_call 24; (with_reducible refine (chicorylaw07_awake.calls k4  true _ A58.out).mono ?_); rintro e w61 ⟨rfl, hb⟩; have n0_ := Aside0.mk (Kd.R_below (by (with_reducible repeat (first | apply Kd.R_alloc | apply Kd.R_drewN | apply Kd.R_drew)); exact HO_8.out) hb); have n1_ := Aside0.mk (Kd.R_below (by (with_reducible repeat (first | apply Kd.R_alloc | apply Kd.R_drewN | apply Kd.R_drew)); exact HO_10.out) hb); have n2_ := Aside0.mk (below_step (by repeat (first | (with_reducible first | exact HB.out | apply below_alloc | apply pw_below_drewN | apply below_drew1) | exact HB.out)) hb); clear HO_8; clear HO_10; clear HB; have HO_8 := n0_; have HO_10 := n1_; have HB := n2_; clear n0_ n1_ n2_; (try clear hb); (try clear hb2); (try clear hk); (try clear hi)))
                                  go_ret
                                  exact ⟨by first | rfl | (simp [errW_none, errW_some] <;> rfl) | (simp [*, errW_none, errW_some] <;> rfl), by repeat (first | (with_reducible first | exact HB.out | apply below_alloc | apply pw_below_drewN | apply below_drew1) | exact HB.out)⟩
                                · rw [if_neg c57] at H
                                  have c57b0 : ((rd t974 (t970.length : Int)) == 1) = false := beq_eq_false_iff_ne.mpr c57
                                  have c57b1 : ((rd t974 (t970.length : Int)) != 1) = true := bne_iff_ne.mpr c57
                                  exact absurd H (by simp)
                            · rw [if_neg c51] at H
                              exact absurd H (by simp)
                          · rw [if_neg c50] at H
                            exact absurd H (by simp)
/-- THE ONE PURE STATEMENT of chicorylaw07_DigitsSum: yours. -/
def chicorylaw07_DigitsSum.Pure : Prop := ∀ (l0 : List Int) (a1 : Int), l0.length ≤ maxLen → l0.length * 1 ≤ 140737488351232 → (∀ x ∈ l0, (Lit.int .u8 x).wf = true) → (Lit.int .i64 a1).wf = true → ∃ k, chicorylaw07_DigitsSum.f k l0 a1 = some true
theorem chicorylaw07_DigitsSum.walk (P : chicorylaw07_DigitsSum.Pure) (a0 : Option Addr) (len0 cap0 : Nat) (z0 : List Int) (a1 : Int) (w : World) (w0 : (a0 = none ∧ len0 = 0 ∧ cap0 = 0 ∧ z0 = []) ∨ ∃ x, a0 = some x ∧ len0 ≤ cap0 ∧ cap0 ≤ maxLen ∧ z0.length = cap0 ∧ (∀ i, i < z0.length → w.cell? (x.add i) = some (.int .u8 (z0.getD i 0))) ∧ ∀ n ∈ z0, (Lit.int .u8 n).wf = true) (y0 : len0 * 1 ≤ 140737488351232) (w1 : (Lit.int .i64 a1).wf = true) :
    Calls Try.prog 6 #[.slice a0 len0 cap0, .int .i64 a1] w fun e w' => e = .returned (.bool true) ∧ Below w.heap.size w w' := by
  obtain ⟨l0, rfl, hr0, hm0, hw0, hc0⟩ := ReadsInt.ofRowC w0
  obtain ⟨k, h⟩ := P l0 a1 hm0 y0 hw0 w1
  refine (chicorylaw07_DigitsSum.calls k _ _ l0 a1 w (Kd.C_of_reads (d := (0 : Int)) (h1 := fun _ => rfl) hr0) hc0 h).mono ?_
  rintro e w' ⟨rfl, hd⟩
  exact ⟨rfl, hd⟩
end Go.Proofs.Ytdaehflffecllaa.N
namespace Go.Proofs.Ytdaehflffecllaa.N
open Go.RowKit Go.Proofs.YtdaehflffecllaaW.PrintWords Go.Proofs.YtdaehflffecllaaW.PrintLast Go.Proofs.YtdaehflffecllaaW.PrintMore
attribute [local go_sem] max2_int min2_int max_two min_two max_three min_three max_four min_four   -- for this text's walks alone
set_option linter.unusedVariables false
set_option linter.unusedSimpArgs false
end Go.Proofs.Ytdaehflffecllaa.N
namespace Go.Proofs.Ytdaehflffecllaa.N
open Go.RowKit Go.Proofs.YtdaehflffecllaaW.PrintWords Go.Proofs.YtdaehflffecllaaW.PrintLast Go.Proofs.YtdaehflffecllaaW.PrintMore
attribute [local go_sem] max2_int min2_int max_two min_two max_three min_three max_four min_four   -- for this text's walks alone
set_option linter.unusedVariables false
set_option linter.unusedSimpArgs false
end Go.Proofs.Ytdaehflffecllaa.N
namespace Go.Proofs.Ytdaehflffecllaa.N
open Go.RowKit Go.Proofs.YtdaehflffecllaaW.PrintWords Go.Proofs.YtdaehflffecllaaW.PrintLast Go.Proofs.YtdaehflffecllaaW.PrintMore
attribute [local go_sem] max2_int min2_int max_two min_two max_three min_three max_four min_four   -- for this text's walks alone
set_option linter.unusedVariables false
set_option linter.unusedSimpArgs false
end Go.Proofs.Ytdaehflffecllaa.N
namespace Go.Proofs.Ytdaehflffecllaa.N
open Go.RowKit Go.Proofs.YtdaehflffecllaaW.PrintWords Go.Proofs.YtdaehflffecllaaW.PrintLast Go.Proofs.YtdaehflffecllaaW.PrintMore
attribute [local go_sem] max2_int min2_int max_two min_two max_three min_three max_four min_four   -- for this text's walks alone
set_option linter.unusedVariables false
set_option linter.unusedSimpArgs false
end Go.Proofs.Ytdaehflffecllaa.N
namespace Go.Proofs.Ytdaehflffecllaa.N
open Go.RowKit Go.Proofs.YtdaehflffecllaaW.PrintWords Go.Proofs.YtdaehflffecllaaW.PrintLast Go.Proofs.YtdaehflffecllaaW.PrintMore
attribute [local go_sem] max2_int min2_int max_two min_two max_three min_three max_four min_four   -- for this text's walks alone
set_option linter.unusedVariables false
set_option linter.unusedSimpArgs false
end Go.Proofs.Ytdaehflffecllaa.N
namespace Go.Proofs.Ytdaehflffecllaa.N
open Go.RowKit Go.Proofs.YtdaehflffecllaaW.PrintWords Go.Proofs.YtdaehflffecllaaW.PrintLast Go.Proofs.YtdaehflffecllaaW.PrintMore
attribute [local go_sem] max2_int min2_int max_two min_two max_three min_three max_four min_four   -- for this text's walks alone
set_option linter.unusedVariables false
set_option linter.unusedSimpArgs false
end Go.Proofs.Ytdaehflffecllaa.N
