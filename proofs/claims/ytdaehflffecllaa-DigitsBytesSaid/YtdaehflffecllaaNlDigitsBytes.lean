-- Printed by a program of this session (wip/xprint.py, over the kit's print.py with this session's stand-ins for what that does not take); checked by Lean alone.
import Derived.Test.YtdaehflffecllaaNx0
import Derived.Test.YtdaehflffecllaaNx7
import Derived.Test.YtdaehflffecllaaNx8
namespace Go.Proofs.Ytdaehflffecllaa.N
open Go.RowKit Go.Proofs.YtdaehflffecllaaW.PrintWords Go.Proofs.YtdaehflffecllaaW.PrintLast Go.Proofs.YtdaehflffecllaaW.PrintMore
attribute [local go_sem] max2_int min2_int max_two min_two max_three min_three max_four min_four   -- for this text's walks alone
set_option linter.unusedVariables false
set_option linter.unusedSimpArgs false

/-! ### chicorylaw07_DigitsBytes: function 3 -/
mutual
def chicorylaw07_DigitsBytes.j0 : Nat → List Int → List Int → List Int → Bool → Option (Bool)
  | 0, _, _, _, _ => none
  | k + 1, x0, x3, x5, x70 => if x70 = true then (some false) else (chicorylaw07_DigitsBytes.l0 k x0 x3 x5 0)
def chicorylaw07_DigitsBytes.l0 : Nat → List Int → List Int → List Int → Int → Option (Bool)
  | 0, _, _, _, _ => none
  | k + 1, x0, x3, x5, x11 => if x11 < (x0.length : Int) then (if 0 ≤ x11 then (if x11 < (x3.length : Int) then (if (rd x3 x11) = (wrap64 (rd x0 x11)) then (if 0 ≤ (wrap64 (2 * x11)) then (if (wrap64 (2 * x11)) < (x5.length : Int) then (if 0 ≤ (wrap64 ((wrap64 (2 * x11)) + 1)) then (if (wrap64 ((wrap64 (2 * x11)) + 1)) < (x5.length : Int) then (if (wrap64 ((rd x5 (wrap64 (2 * x11))) + (wrap64 (16 * (rd x5 (wrap64 ((wrap64 (2 * x11)) + 1))))))) = (rd x3 x11) then (chicorylaw07_DigitsBytes.l0 k x0 x3 x5 (wrap64 (x11 + 1))) else (some false)) else (none)) else (none)) else (none)) else (none)) else (some false)) else (none)) else (none)) else ((chicorylaw07_awake.f k).bind fun t806 => (some t806))
end
def chicorylaw07_DigitsBytes.f (k : Nat) (l0 : List Int) : Option (Bool) := if (l0.length : Int) > 64 then ((chicorylaw07_awake.f k).bind fun t783 => (some t783)) else ((digits_Plain.f k l0 8).bind fun bt784 => ((digits_Plain.f k l0 4).bind fun bt788 => ((digits_Plain.f k l0 1).bind fun bt792 => ((digits_Columns.f k l0 1).bind fun bt796 => (if bt784.2 = 0 then (if bt788.2 = 0 then (if bt792.2 = 0 then (if bt796.2 = 0 then (if (bt784.1.length : Int) = (l0.length : Int) then (if (bt788.1.length : Int) = (wrap64 (2 * (l0.length : Int))) then ((chicorylaw07_Ints.f k bt792.1 bt796.1).bind fun t800 => (chicorylaw07_DigitsBytes.j0 k l0 bt784.1 bt788.1 (!t800))) else (chicorylaw07_DigitsBytes.j0 k l0 bt784.1 bt788.1 true)) else (chicorylaw07_DigitsBytes.j0 k l0 bt784.1 bt788.1 true)) else (chicorylaw07_DigitsBytes.j0 k l0 bt784.1 bt788.1 true)) else (chicorylaw07_DigitsBytes.j0 k l0 bt784.1 bt788.1 true)) else (chicorylaw07_DigitsBytes.j0 k l0 bt784.1 bt788.1 true)) else (chicorylaw07_DigitsBytes.j0 k l0 bt784.1 bt788.1 true))))))
theorem chicorylaw07_DigitsBytes.mono_l : ∀ k, (∀ y0 y1 y2 y3, LeO (chicorylaw07_DigitsBytes.j0 k y0 y1 y2 y3) (chicorylaw07_DigitsBytes.j0 (k + 1) y0 y1 y2 y3)) ∧ (∀ y0 y1 y2 y3, LeO (chicorylaw07_DigitsBytes.l0 k y0 y1 y2 y3) (chicorylaw07_DigitsBytes.l0 (k + 1) y0 y1 y2 y3))
  | 0 => ⟨fun _ _ _ _ r h => by simp [chicorylaw07_DigitsBytes.j0] at h, fun _ _ _ _ r h => by simp [chicorylaw07_DigitsBytes.l0] at h⟩
  | k + 1 => by
    obtain ⟨ih0, ih1⟩ := chicorylaw07_DigitsBytes.mono_l k
    refine ⟨?_, ?_⟩
    · intro y0 y1 y2 y3
      unfold chicorylaw07_DigitsBytes.j0
      repeat' first
      | (with_reducible exact ih0 _ _ _ _)
      | (with_reducible exact ih1 _ _ _ _)
      | (with_reducible exact chicorylaw07_Ints.mono _ _ _)
      | (with_reducible exact chicorylaw07_awake.mono _)
      | (with_reducible exact digits_Columns.mono _ _ _)
      | (with_reducible exact digits_Plain.mono _ _ _)
      | (with_reducible exact LeO.refl _)
      | (with_reducible exact LeO.none _)
      | (with_reducible refine LeO.ite ?_ ?_)
      | (with_reducible refine LeO.bind ?_ (fun _ => ?_))
      | exact ih0 _ _ _ _
      | exact ih1 _ _ _ _
      | exact chicorylaw07_Ints.mono _ _ _
      | exact chicorylaw07_awake.mono _
      | exact digits_Columns.mono _ _ _
      | exact digits_Plain.mono _ _ _
      | exact LeO.none _
      | refine LeO.ite ?_ ?_
      | refine LeO.bind ?_ (fun _ => ?_)
    · intro y0 y1 y2 y3
      unfold chicorylaw07_DigitsBytes.l0
      repeat' first
      | (with_reducible exact ih0 _ _ _ _)
      | (with_reducible exact ih1 _ _ _ _)
      | (with_reducible exact chicorylaw07_Ints.mono _ _ _)
      | (with_reducible exact chicorylaw07_awake.mono _)
      | (with_reducible exact digits_Columns.mono _ _ _)
      | (with_reducible exact digits_Plain.mono _ _ _)
      | (with_reducible exact LeO.refl _)
      | (with_reducible exact LeO.none _)
      | (with_reducible refine LeO.ite ?_ ?_)
      | (with_reducible refine LeO.bind ?_ (fun _ => ?_))
      | exact ih0 _ _ _ _
      | exact ih1 _ _ _ _
      | exact chicorylaw07_Ints.mono _ _ _
      | exact chicorylaw07_awake.mono _
      | exact digits_Columns.mono _ _ _
      | exact digits_Plain.mono _ _ _
      | exact LeO.none _
      | refine LeO.ite ?_ ?_
      | refine LeO.bind ?_ (fun _ => ?_)
theorem chicorylaw07_DigitsBytes.mono : ∀ a0 k, LeO (chicorylaw07_DigitsBytes.f k a0) (chicorylaw07_DigitsBytes.f (k + 1) a0) := by
  intro a0 k
  obtain ⟨ih0, ih1⟩ := chicorylaw07_DigitsBytes.mono_l k
  unfold chicorylaw07_DigitsBytes.f
  repeat' first
      | (with_reducible exact ih0 _ _ _ _)
      | (with_reducible exact ih1 _ _ _ _)
      | (with_reducible exact chicorylaw07_Ints.mono _ _ _)
      | (with_reducible exact chicorylaw07_awake.mono _)
      | (with_reducible exact digits_Columns.mono _ _ _)
      | (with_reducible exact digits_Plain.mono _ _ _)
      | (with_reducible exact LeO.refl _)
      | (with_reducible exact LeO.none _)
      | (with_reducible refine LeO.ite ?_ ?_)
      | (with_reducible refine LeO.bind ?_ (fun _ => ?_))
      | exact ih0 _ _ _ _
      | exact ih1 _ _ _ _
      | exact chicorylaw07_Ints.mono _ _ _
      | exact chicorylaw07_awake.mono _
      | exact digits_Columns.mono _ _ _
      | exact digits_Plain.mono _ _ _
      | exact LeO.none _
      | refine LeO.ite ?_ ?_
      | refine LeO.bind ?_ (fun _ => ?_)
set_option maxHeartbeats 8000000 in
set_option maxRecDepth 100000 in
theorem chicorylaw07_DigitsBytes.calls (k : Nat) (A0 : Option Addr) (c0 : Nat) (l0 : List Int) (w : World) (hr0 : Kd.C (Kd.int .u8) w A0 l0.length l0) (hc0 : l0.length ≤ c0) (h : chicorylaw07_DigitsBytes.f k l0 = some true) :
    Calls Try.prog 3 #[.slice A0 l0.length c0] w fun e w' => e = .returned (.bool true) ∧ Below w.heap.size w w' := by
  have HR0 := Aside0.mk hr0
  have HC0 := Aside0.mk hc0
  clear hr0 hc0
  have HB := Aside0.mk (Below.refl w.heap.size w)
  have H : (if (l0.length : Int) > 64 then ((chicorylaw07_awake.f k).bind fun t783 => (some t783)) else ((digits_Plain.f k l0 8).bind fun bt784 => ((digits_Plain.f k l0 4).bind fun bt788 => ((digits_Plain.f k l0 1).bind fun bt792 => ((digits_Columns.f k l0 1).bind fun bt796 => (if bt784.2 = 0 then (if bt788.2 = 0 then (if bt792.2 = 0 then (if bt796.2 = 0 then (if (bt784.1.length : Int) = (l0.length : Int) then (if (bt788.1.length : Int) = (wrap64 (2 * (l0.length : Int))) then ((chicorylaw07_Ints.f k bt792.1 bt796.1).bind fun t800 => (chicorylaw07_DigitsBytes.j0 k l0 bt784.1 bt788.1 (!t800))) else (chicorylaw07_DigitsBytes.j0 k l0 bt784.1 bt788.1 true)) else (chicorylaw07_DigitsBytes.j0 k l0 bt784.1 bt788.1 true)) else (chicorylaw07_DigitsBytes.j0 k l0 bt784.1 bt788.1 true)) else (chicorylaw07_DigitsBytes.j0 k l0 bt784.1 bt788.1 true)) else (chicorylaw07_DigitsBytes.j0 k l0 bt784.1 bt788.1 true)) else (chicorylaw07_DigitsBytes.j0 k l0 bt784.1 bt788.1 true))))))) = some true := h
  clear h
  by_cases c2 : (l0.length : Int) > 64
  · rw [if_pos c2] at H
    have c2b0 : decide (64 < (l0.length : Int)) = true := decide_eq_true c2
    have c2b1 : decide (64 < l0.length) = true := decide_eq_true (by omega)
    clear c2
    replace H := Option.bind_eq_some_iff.mp H
    obtain ⟨t783, A30, H⟩ := H
    replace H : (some t783) = some true := H
    have A3 := Aside0.mk A30
    clear A30
    obtain rfl := Option.some.inj H
    go_enter Try.func3, Try.ntmps3
    go_wp2_with (first | (go_at_call 24; (with_reducible refine (chicorylaw07_awake.calls k  true _ A3.out).mono ?_); rintro e w4 ⟨rfl, hb⟩; have n0_ := Aside0.mk (below_step (by repeat (first | (with_reducible first | exact HB.out | apply below_alloc | apply pw_below_drewN | apply below_drew1) | exact HB.out)) hb); clear HB; have HB := n0_; clear n0_; (try clear hb); (try clear hb2); (try clear hk); (try clear hi)))
    repeat (go_quiet (first | (go_at_call 24; (with_reducible refine (chicorylaw07_awake.calls k  true _ A3.out).mono ?_); rintro e w4 ⟨rfl, hb⟩; have n0_ := Aside0.mk (below_step (by repeat (first | (with_reducible first | exact HB.out | apply below_alloc | apply pw_below_drewN | apply below_drew1) | exact HB.out)) hb); clear HB; have HB := n0_; clear n0_; (try clear hb); (try clear hb2); (try clear hk); (try clear hi))); try go_wp2_with (first | (go_at_call 24; (with_reducible refine (chicorylaw07_awake.calls k  true _ A3.out).mono ?_); rintro e w4 ⟨rfl, hb⟩; have n0_ := Aside0.mk (below_step (by repeat (first | (with_reducible first | exact HB.out | apply below_alloc | apply pw_below_drewN | apply below_drew1) | exact HB.out)) hb); clear HB; have HB := n0_; clear n0_; (try clear hb); (try clear hb2); (try clear hk); (try clear hi))))
    go_ret
    exact ⟨by first | rfl | (simp [errW_none, errW_some] <;> rfl) | (simp [*, errW_none, errW_some] <;> rfl), by repeat (first | (with_reducible first | exact HB.out | apply below_alloc | apply pw_below_drewN | apply below_drew1) | exact HB.out)⟩
  · rw [if_neg c2] at H
    have c2b0 : decide (64 < (l0.length : Int)) = false := decide_eq_false c2
    have c2b1 : decide (64 < l0.length) = false := decide_eq_false (by omega)
    clear c2
    replace H := Option.bind_eq_some_iff.mp H
    obtain ⟨⟨t784, t785⟩, A50, H⟩ := H
    replace H : ((digits_Plain.f k l0 4).bind fun bt788 => ((digits_Plain.f k l0 1).bind fun bt792 => ((digits_Columns.f k l0 1).bind fun bt796 => (if t785 = 0 then (if bt788.2 = 0 then (if bt792.2 = 0 then (if bt796.2 = 0 then (if (t784.length : Int) = (l0.length : Int) then (if (bt788.1.length : Int) = (wrap64 (2 * (l0.length : Int))) then ((chicorylaw07_Ints.f k bt792.1 bt796.1).bind fun t800 => (chicorylaw07_DigitsBytes.j0 k l0 t784 bt788.1 (!t800))) else (chicorylaw07_DigitsBytes.j0 k l0 t784 bt788.1 true)) else (chicorylaw07_DigitsBytes.j0 k l0 t784 bt788.1 true)) else (chicorylaw07_DigitsBytes.j0 k l0 t784 bt788.1 true)) else (chicorylaw07_DigitsBytes.j0 k l0 t784 bt788.1 true)) else (chicorylaw07_DigitsBytes.j0 k l0 t784 bt788.1 true)) else (chicorylaw07_DigitsBytes.j0 k l0 t784 bt788.1 true))))) = some true := H
    have A5 := Aside0.mk A50
    clear A50
    replace H := Option.bind_eq_some_iff.mp H
    obtain ⟨⟨t788, t789⟩, A60, H⟩ := H
    replace H : ((digits_Plain.f k l0 1).bind fun bt792 => ((digits_Columns.f k l0 1).bind fun bt796 => (if t785 = 0 then (if t789 = 0 then (if bt792.2 = 0 then (if bt796.2 = 0 then (if (t784.length : Int) = (l0.length : Int) then (if (t788.length : Int) = (wrap64 (2 * (l0.length : Int))) then ((chicorylaw07_Ints.f k bt792.1 bt796.1).bind fun t800 => (chicorylaw07_DigitsBytes.j0 k l0 t784 t788 (!t800))) else (chicorylaw07_DigitsBytes.j0 k l0 t784 t788 true)) else (chicorylaw07_DigitsBytes.j0 k l0 t784 t788 true)) else (chicorylaw07_DigitsBytes.j0 k l0 t784 t788 true)) else (chicorylaw07_DigitsBytes.j0 k l0 t784 t788 true)) else (chicorylaw07_DigitsBytes.j0 k l0 t784 t788 true)) else (chicorylaw07_DigitsBytes.j0 k l0 t784 t788 true)))) = some true := H
    have A6 := Aside0.mk A60
    clear A60
    replace H := Option.bind_eq_some_iff.mp H
    obtain ⟨⟨t792, t793⟩, A70, H⟩ := H
    replace H : ((digits_Columns.f k l0 1).bind fun bt796 => (if t785 = 0 then (if t789 = 0 then (if t793 = 0 then (if bt796.2 = 0 then (if (t784.length : Int) = (l0.length : Int) then (if (t788.length : Int) = (wrap64 (2 * (l0.length : Int))) then ((chicorylaw07_Ints.f k t792 bt796.1).bind fun t800 => (chicorylaw07_DigitsBytes.j0 k l0 t784 t788 (!t800))) else (chicorylaw07_DigitsBytes.j0 k l0 t784 t788 true)) else (chicorylaw07_DigitsBytes.j0 k l0 t784 t788 true)) else (chicorylaw07_DigitsBytes.j0 k l0 t784 t788 true)) else (chicorylaw07_DigitsBytes.j0 k l0 t784 t788 true)) else (chicorylaw07_DigitsBytes.j0 k l0 t784 t788 true)) else (chicorylaw07_DigitsBytes.j0 k l0 t784 t788 true))) = some true := H
    have A7 := Aside0.mk A70
    clear A70
    replace H := Option.bind_eq_some_iff.mp H
    obtain ⟨⟨t796, t797⟩, A80, H⟩ := H
    replace H : (if t785 = 0 then (if t789 = 0 then (if t793 = 0 then (if t797 = 0 then (if (t784.length : Int) = (l0.length : Int) then (if (t788.length : Int) = (wrap64 (2 * (l0.length : Int))) then ((chicorylaw07_Ints.f k t792 t796).bind fun t800 => (chicorylaw07_DigitsBytes.j0 k l0 t784 t788 (!t800))) else (chicorylaw07_DigitsBytes.j0 k l0 t784 t788 true)) else (chicorylaw07_DigitsBytes.j0 k l0 t784 t788 true)) else (chicorylaw07_DigitsBytes.j0 k l0 t784 t788 true)) else (chicorylaw07_DigitsBytes.j0 k l0 t784 t788 true)) else (chicorylaw07_DigitsBytes.j0 k l0 t784 t788 true)) else (chicorylaw07_DigitsBytes.j0 k l0 t784 t788 true)) = some true := H
    have A8 := Aside0.mk A80
    clear A80
    have HC9 := Aside0.mk H
    clear H
    go_enter Try.func3, Try.ntmps3
    go_upto_region 7 with (first | (go_at_call 25; (with_reducible refine (digits_Plain.calls k _ _ l0 8 t784 t785 _ ?side1 ?side2 A5.out).mono ?_); (case side1 => repeat (first | exact HR0.out | (with_reducible refine Kd.C_alloc ?_ _) | (with_reducible refine Kd.C_drewN ?_ _) | (with_reducible refine Kd.C_drew ?_))); (case side2 => exact HC0.out); rintro e w10 ⟨v786, rfl, ho0, hb⟩; have n0_ := Aside0.mk (Kd.R_lower ho0 (below_size (by repeat (first | (with_reducible first | exact HB.out | apply below_alloc | apply pw_below_drewN | apply below_drew1) | exact HB.out)))); have n1_ := Aside0.mk (below_step (by repeat (first | (with_reducible first | exact HB.out | apply below_alloc | apply pw_below_drewN | apply below_drew1) | exact HB.out)) hb); clear HB; have HO787 := n0_; have HB := n1_; clear n0_ n1_; (try clear hb); (try clear hb2); (try clear hk); (try clear hi); (try clear ho0)) | (go_at_call 25; (with_reducible refine (digits_Plain.calls k _ _ l0 4 t788 t789 _ ?side1 ?side2 A6.out).mono ?_); (case side1 => repeat (first | exact (Kd.C_below HR0.out HB.out) | (with_reducible refine Kd.C_alloc ?_ _) | (with_reducible refine Kd.C_drewN ?_ _) | (with_reducible refine Kd.C_drew ?_))); (case side2 => exact HC0.out); rintro e w11 ⟨v790, rfl, ho0, hb⟩; have n0_ := Aside0.mk (Kd.R_elder' (by (with_reducible repeat (first | apply Kd.R_alloc | apply Kd.R_drewN | apply Kd.R_drew)); exact HO787.out) (Kd.R_base ho0) hb); have n1_ := Aside0.mk (Kd.R_lower (Kd.R_new' ho0 (Kd.R_lt (by (with_reducible repeat (first | apply Kd.R_alloc | apply Kd.R_drewN | apply Kd.R_drew)); exact HO787.out))) (below_size (by repeat (first | (with_reducible first | exact HB.out | apply below_alloc | apply pw_below_drewN | apply below_drew1) | exact HB.out)))); have n2_ := Aside0.mk (below_step (by repeat (first | (with_reducible first | exact HB.out | apply below_alloc | apply pw_below_drewN | apply below_drew1) | exact HB.out)) hb); clear HO787; clear HB; have HO787 := n0_; have HO791 := n1_; have HB := n2_; clear n0_ n1_ n2_; (try clear hb); (try clear hb2); (try clear hk); (try clear hi); (try clear ho0)) | (go_at_call 25; (with_reducible refine (digits_Plain.calls k _ _ l0 1 t792 t793 _ ?side1 ?side2 A7.out).mono ?_); (case side1 => repeat (first | exact (Kd.C_below HR0.out HB.out) | (with_reducible refine Kd.C_alloc ?_ _) | (with_reducible refine Kd.C_drewN ?_ _) | (with_reducible refine Kd.C_drew ?_))); (case side2 => exact HC0.out); rintro e w12 ⟨v794, rfl, ho0, hb⟩; have n0_ := Aside0.mk (Kd.R_elder' (by (with_reducible repeat (first | apply Kd.R_alloc | apply Kd.R_drewN | apply Kd.R_drew)); exact HO787.out) (Kd.R_base ho0) hb); have n1_ := Aside0.mk (Kd.R_elder' (by (with_reducible repeat (first | apply Kd.R_alloc | apply Kd.R_drewN | apply Kd.R_drew)); exact HO791.out) (Kd.R_base ho0) hb); have n2_ := Aside0.mk (Kd.R_lower (Kd.R_new' (Kd.R_new' ho0 (Kd.R_lt (by (with_reducible repeat (first | apply Kd.R_alloc | apply Kd.R_drewN | apply Kd.R_drew)); exact HO787.out))) (Kd.R_lt (by (with_reducible repeat (first | apply Kd.R_alloc | apply Kd.R_drewN | apply Kd.R_drew)); exact HO791.out))) (below_size (by repeat (first | (with_reducible first | exact HB.out | apply below_alloc | apply pw_below_drewN | apply below_drew1) | exact HB.out)))); have n3_ := Aside0.mk (below_step (by repeat (first | (with_reducible first | exact HB.out | apply below_alloc | apply pw_below_drewN | apply below_drew1) | exact HB.out)) hb); clear HO787; clear HO791; clear HB; have HO787 := n0_; have HO791 := n1_; have HO795 := n2_; have HB := n3_; clear n0_ n1_ n2_ n3_; (try clear hb); (try clear hb2); (try clear hk); (try clear hi); (try clear ho0)) | (go_at_call 26; (with_reducible refine (digits_Columns.calls k _ _ l0 1 t796 t797 _ ?side1 ?side2 A8.out).mono ?_); (case side1 => repeat (first | exact (Kd.C_below HR0.out HB.out) | (with_reducible refine Kd.C_alloc ?_ _) | (with_reducible refine Kd.C_drewN ?_ _) | (with_reducible refine Kd.C_drew ?_))); (case side2 => exact HC0.out); rintro e w13 ⟨v798, rfl, ho0, hb⟩; have n0_ := Aside0.mk (Kd.R_elder' (by (with_reducible repeat (first | apply Kd.R_alloc | apply Kd.R_drewN | apply Kd.R_drew)); exact HO787.out) (Kd.R_base ho0) hb); have n1_ := Aside0.mk (Kd.R_elder' (by (with_reducible repeat (first | apply Kd.R_alloc | apply Kd.R_drewN | apply Kd.R_drew)); exact HO791.out) (Kd.R_base ho0) hb); have n2_ := Aside0.mk (Kd.R_elder' (by (with_reducible repeat (first | apply Kd.R_alloc | apply Kd.R_drewN | apply Kd.R_drew)); exact HO795.out) (Kd.R_base ho0) hb); have n3_ := Aside0.mk (Kd.R_lower (Kd.R_new' (Kd.R_new' (Kd.R_new' ho0 (Kd.R_lt (by (with_reducible repeat (first | apply Kd.R_alloc | apply Kd.R_drewN | apply Kd.R_drew)); exact HO787.out))) (Kd.R_lt (by (with_reducible repeat (first | apply Kd.R_alloc | apply Kd.R_drewN | apply Kd.R_drew)); exact HO791.out))) (Kd.R_lt (by (with_reducible repeat (first | apply Kd.R_alloc | apply Kd.R_drewN | apply Kd.R_drew)); exact HO795.out))) (below_size (by repeat (first | (with_reducible first | exact HB.out | apply below_alloc | apply pw_below_drewN | apply below_drew1) | exact HB.out)))); have n4_ := Aside0.mk (below_step (by repeat (first | (with_reducible first | exact HB.out | apply below_alloc | apply pw_below_drewN | apply below_drew1) | exact HB.out)) hb); clear HO787; clear HO791; clear HO795; clear HB; have HO787 := n0_; have HO791 := n1_; have HO795 := n2_; have HO799 := n3_; have HB := n4_; clear n0_ n1_ n2_ n3_ n4_; (try clear hb); (try clear hb2); (try clear hk); (try clear hi); (try clear ho0)))
    repeat (go_quiet (first | (go_at_call 25; (with_reducible refine (digits_Plain.calls k _ _ l0 8 t784 t785 _ ?side1 ?side2 A5.out).mono ?_); (case side1 => repeat (first | exact HR0.out | (with_reducible refine Kd.C_alloc ?_ _) | (with_reducible refine Kd.C_drewN ?_ _) | (with_reducible refine Kd.C_drew ?_))); (case side2 => exact HC0.out); rintro e w10 ⟨v786, rfl, ho0, hb⟩; have n0_ := Aside0.mk (Kd.R_lower ho0 (below_size (by repeat (first | (with_reducible first | exact HB.out | apply below_alloc | apply pw_below_drewN | apply below_drew1) | exact HB.out)))); have n1_ := Aside0.mk (below_step (by repeat (first | (with_reducible first | exact HB.out | apply below_alloc | apply pw_below_drewN | apply below_drew1) | exact HB.out)) hb); clear HB; have HO787 := n0_; have HB := n1_; clear n0_ n1_; (try clear hb); (try clear hb2); (try clear hk); (try clear hi); (try clear ho0)) | (go_at_call 25; (with_reducible refine (digits_Plain.calls k _ _ l0 4 t788 t789 _ ?side1 ?side2 A6.out).mono ?_); (case side1 => repeat (first | exact (Kd.C_below HR0.out HB.out) | (with_reducible refine Kd.C_alloc ?_ _) | (with_reducible refine Kd.C_drewN ?_ _) | (with_reducible refine Kd.C_drew ?_))); (case side2 => exact HC0.out); rintro e w11 ⟨v790, rfl, ho0, hb⟩; have n0_ := Aside0.mk (Kd.R_elder' (by (with_reducible repeat (first | apply Kd.R_alloc | apply Kd.R_drewN | apply Kd.R_drew)); exact HO787.out) (Kd.R_base ho0) hb); have n1_ := Aside0.mk (Kd.R_lower (Kd.R_new' ho0 (Kd.R_lt (by (with_reducible repeat (first | apply Kd.R_alloc | apply Kd.R_drewN | apply Kd.R_drew)); exact HO787.out))) (below_size (by repeat (first | (with_reducible first | exact HB.out | apply below_alloc | apply pw_below_drewN | apply below_drew1) | exact HB.out)))); have n2_ := Aside0.mk (below_step (by repeat (first | (with_reducible first | exact HB.out | apply below_alloc | apply pw_below_drewN | apply below_drew1) | exact HB.out)) hb); clear HO787; clear HB; have HO787 := n0_; have HO791 := n1_; have HB := n2_; clear n0_ n1_ n2_; (try clear hb); (try clear hb2); (try clear hk); (try clear hi); (try clear ho0)) | (go_at_call 25; (with_reducible refine (digits_Plain.calls k _ _ l0 1 t792 t793 _ ?side1 ?side2 A7.out).mono ?_); (case side1 => repeat (first | exact (Kd.C_below HR0.out HB.out) | (with_reducible refine Kd.C_alloc ?_ _) | (with_reducible refine Kd.C_drewN ?_ _) | (with_reducible refine Kd.C_drew ?_))); (case side2 => exact HC0.out); rintro e w12 ⟨v794, rfl, ho0, hb⟩; have n0_ := Aside0.mk (Kd.R_elder' (by (with_reducible repeat (first | apply Kd.R_alloc | apply Kd.R_drewN | apply Kd.R_drew)); exact HO787.out) (Kd.R_base ho0) hb); have n1_ := Aside0.mk (Kd.R_elder' (by (with_reducible repeat (first | apply Kd.R_alloc | apply Kd.R_drewN | apply Kd.R_drew)); exact HO791.out) (Kd.R_base ho0) hb); have n2_ := Aside0.mk (Kd.R_lower (Kd.R_new' (Kd.R_new' ho0 (Kd.R_lt (by (with_reducible repeat (first | apply Kd.R_alloc | apply Kd.R_drewN | apply Kd.R_drew)); exact HO787.out))) (Kd.R_lt (by (with_reducible repeat (first | apply Kd.R_alloc | apply Kd.R_drewN | apply Kd.R_drew)); exact HO791.out))) (below_size (by repeat (first | (with_reducible first | exact HB.out | apply below_alloc | apply pw_below_drewN | apply below_drew1) | exact HB.out)))); have n3_ := Aside0.mk (below_step (by repeat (first | (with_reducible first | exact HB.out | apply below_alloc | apply pw_below_drewN | apply below_drew1) | exact HB.out)) hb); clear HO787; clear HO791; clear HB; have HO787 := n0_; have HO791 := n1_; have HO795 := n2_; have HB := n3_; clear n0_ n1_ n2_ n3_; (try clear hb); (try clear hb2); (try clear hk); (try clear hi); (try clear ho0)) | (go_at_call 26; (with_reducible refine (digits_Columns.calls k _ _ l0 1 t796 t797 _ ?side1 ?side2 A8.out).mono ?_); (case side1 => repeat (first | exact (Kd.C_below HR0.out HB.out) | (with_reducible refine Kd.C_alloc ?_ _) | (with_reducible refine Kd.C_drewN ?_ _) | (with_reducible refine Kd.C_drew ?_))); (case side2 => exact HC0.out); rintro e w13 ⟨v798, rfl, ho0, hb⟩; have n0_ := Aside0.mk (Kd.R_elder' (by (with_reducible repeat (first | apply Kd.R_alloc | apply Kd.R_drewN | apply Kd.R_drew)); exact HO787.out) (Kd.R_base ho0) hb); have n1_ := Aside0.mk (Kd.R_elder' (by (with_reducible repeat (first | apply Kd.R_alloc | apply Kd.R_drewN | apply Kd.R_drew)); exact HO791.out) (Kd.R_base ho0) hb); have n2_ := Aside0.mk (Kd.R_elder' (by (with_reducible repeat (first | apply Kd.R_alloc | apply Kd.R_drewN | apply Kd.R_drew)); exact HO795.out) (Kd.R_base ho0) hb); have n3_ := Aside0.mk (Kd.R_lower (Kd.R_new' (Kd.R_new' (Kd.R_new' ho0 (Kd.R_lt (by (with_reducible repeat (first | apply Kd.R_alloc | apply Kd.R_drewN | apply Kd.R_drew)); exact HO787.out))) (Kd.R_lt (by (with_reducible repeat (first | apply Kd.R_alloc | apply Kd.R_drewN | apply Kd.R_drew)); exact HO791.out))) (Kd.R_lt (by (with_reducible repeat (first | apply Kd.R_alloc | apply Kd.R_drewN | apply Kd.R_drew)); exact HO795.out))) (below_size (by repeat (first | (with_reducible first | exact HB.out | apply below_alloc | apply pw_below_drewN | apply below_drew1) | exact HB.out)))); have n4_ := Aside0.mk (below_step (by repeat (first | (with_reducible first | exact HB.out | apply below_alloc | apply pw_below_drewN | apply below_drew1) | exact HB.out)) hb); clear HO787; clear HO791; clear HO795; clear HB; have HO787 := n0_; have HO791 := n1_; have HO795 := n2_; have HO799 := n3_; have HB := n4_; clear n0_ n1_ n2_ n3_ n4_; (try clear hb); (try clear hb2); (try clear hk); (try clear hi); (try clear ho0))); go_upto_region 7 with (first | (go_at_call 25; (with_reducible refine (digits_Plain.calls k _ _ l0 8 t784 t785 _ ?side1 ?side2 A5.out).mono ?_); (case side1 => repeat (first | exact HR0.out | (with_reducible refine Kd.C_alloc ?_ _) | (with_reducible refine Kd.C_drewN ?_ _) | (with_reducible refine Kd.C_drew ?_))); (case side2 => exact HC0.out); rintro e w10 ⟨v786, rfl, ho0, hb⟩; have n0_ := Aside0.mk (Kd.R_lower ho0 (below_size (by repeat (first | (with_reducible first | exact HB.out | apply below_alloc | apply pw_below_drewN | apply below_drew1) | exact HB.out)))); have n1_ := Aside0.mk (below_step (by repeat (first | (with_reducible first | exact HB.out | apply below_alloc | apply pw_below_drewN | apply below_drew1) | exact HB.out)) hb); clear HB; have HO787 := n0_; have HB := n1_; clear n0_ n1_; (try clear hb); (try clear hb2); (try clear hk); (try clear hi); (try clear ho0)) | (go_at_call 25; (with_reducible refine (digits_Plain.calls k _ _ l0 4 t788 t789 _ ?side1 ?side2 A6.out).mono ?_); (case side1 => repeat (first | exact (Kd.C_below HR0.out HB.out) | (with_reducible refine Kd.C_alloc ?_ _) | (with_reducible refine Kd.C_drewN ?_ _) | (with_reducible refine Kd.C_drew ?_))); (case side2 => exact HC0.out); rintro e w11 ⟨v790, rfl, ho0, hb⟩; have n0_ := Aside0.mk (Kd.R_elder' (by (with_reducible repeat (first | apply Kd.R_alloc | apply Kd.R_drewN | apply Kd.R_drew)); exact HO787.out) (Kd.R_base ho0) hb); have n1_ := Aside0.mk (Kd.R_lower (Kd.R_new' ho0 (Kd.R_lt (by (with_reducible repeat (first | apply Kd.R_alloc | apply Kd.R_drewN | apply Kd.R_drew)); exact HO787.out))) (below_size (by repeat (first | (with_reducible first | exact HB.out | apply below_alloc | apply pw_below_drewN | apply below_drew1) | exact HB.out)))); have n2_ := Aside0.mk (below_step (by repeat (first | (with_reducible first | exact HB.out | apply below_alloc | apply pw_below_drewN | apply below_drew1) | exact HB.out)) hb); clear HO787; clear HB; have HO787 := n0_; have HO791 := n1_; have HB := n2_; clear n0_ n1_ n2_; (try clear hb); (try clear hb2); (try clear hk); (try clear hi); (try clear ho0)) | (go_at_call 25; (with_reducible refine (digits_Plain.calls k _ _ l0 1 t792 t793 _ ?side1 ?side2 A7.out).mono ?_); (case side1 => repeat (first | exact (Kd.C_below HR0.out HB.out) | (with_reducible refine Kd.C_alloc ?_ _) | (with_reducible refine Kd.C_drewN ?_ _) | (with_reducible refine Kd.C_drew ?_))); (case side2 => exact HC0.out); rintro e w12 ⟨v794, rfl, ho0, hb⟩; have n0_ := Aside0.mk (Kd.R_elder' (by (with_reducible repeat (first | apply Kd.R_alloc | apply Kd.R_drewN | apply Kd.R_drew)); exact HO787.out) (Kd.R_base ho0) hb); have n1_ := Aside0.mk (Kd.R_elder' (by (with_reducible repeat (first | apply Kd.R_alloc | apply Kd.R_drewN | apply Kd.R_drew)); exact HO791.out) (Kd.R_base ho0) hb); have n2_ := Aside0.mk (Kd.R_lower (Kd.R_new' (Kd.R_new' ho0 (Kd.R_lt (by (with_reducible repeat (first | apply Kd.R_alloc | apply Kd.R_drewN | apply Kd.R_drew)); exact HO787.out))) (Kd.R_lt (by (with_reducible repeat (first | apply Kd.R_alloc | apply Kd.R_drewN | apply Kd.R_drew)); exact HO791.out))) (below_size (by repeat (first | (with_reducible first | exact HB.out | apply below_alloc | apply pw_below_drewN | apply below_drew1) | exact HB.out)))); have n3_ := Aside0.mk (below_step (by repeat (first | (with_reducible first | exact HB.out | apply below_alloc | apply pw_below_drewN | apply below_drew1) | exact HB.out)) hb); clear HO787; clear HO791; clear HB; have HO787 := n0_; have HO791 := n1_; have HO795 := n2_; have HB := n3_; clear n0_ n1_ n2_ n3_; (try clear hb); (try clear hb2); (try clear hk); (try clear hi); (try clear ho0)) | (go_at_call 26; (with_reducible refine (digits_Columns.calls k _ _ l0 1 t796 t797 _ ?side1 ?side2 A8.out).mono ?_); (case side1 => repeat (first | exact (Kd.C_below HR0.out HB.out) | (with_reducible refine Kd.C_alloc ?_ _) | (with_reducible refine Kd.C_drewN ?_ _) | (with_reducible refine Kd.C_drew ?_))); (case side2 => exact HC0.out); rintro e w13 ⟨v798, rfl, ho0, hb⟩; have n0_ := Aside0.mk (Kd.R_elder' (by (with_reducible repeat (first | apply Kd.R_alloc | apply Kd.R_drewN | apply Kd.R_drew)); exact HO787.out) (Kd.R_base ho0) hb); have n1_ := Aside0.mk (Kd.R_elder' (by (with_reducible repeat (first | apply Kd.R_alloc | apply Kd.R_drewN | apply Kd.R_drew)); exact HO791.out) (Kd.R_base ho0) hb); have n2_ := Aside0.mk (Kd.R_elder' (by (with_reducible repeat (first | apply Kd.R_alloc | apply Kd.R_drewN | apply Kd.R_drew)); exact HO795.out) (Kd.R_base ho0) hb); have n3_ := Aside0.mk (Kd.R_lower (Kd.R_new' (Kd.R_new' (Kd.R_new' ho0 (Kd.R_lt (by (with_reducible repeat (first | apply Kd.R_alloc | apply Kd.R_drewN | apply Kd.R_drew)); exact HO787.out))) (Kd.R_lt (by (with_reducible repeat (first | apply Kd.R_alloc | apply Kd.R_drewN | apply Kd.R_drew)); exact HO791.out))) (Kd.R_lt (by (with_reducible repeat (first | apply Kd.R_alloc | apply Kd.R_drewN | apply Kd.R_drew)); exact HO795.out))) (below_size (by repeat (first | (with_reducible first | exact HB.out | apply below_alloc | apply pw_below_drewN | apply below_drew1) | exact HB.out)))); have n4_ := Aside0.mk (below_step (by repeat (first | (with_reducible first | exact HB.out | apply below_alloc | apply pw_below_drewN | apply below_drew1) | exact HB.out)) hb); clear HO787; clear HO791; clear HO795; clear HB; have HO787 := n0_; have HO791 := n1_; have HO795 := n2_; have HO799 := n3_; have HB := n4_; clear n0_ n1_ n2_ n3_ n4_; (try clear hb); (try clear hb2); (try clear hk); (try clear hi); (try clear ho0))))
    (try simp only [Act.put, List.setIfInBounds_toArray, List.set_cons_zero, List.set_cons_succ])
    go_cut [70] (fun v70 wc => ∃ (kq : Nat) (x70_8 : Bool), v70 = .bool x70_8 ∧ Aside0 (chicorylaw07_DigitsBytes.j0 kq l0 t784 t788 x70_8 = some true) ∧ Aside0 (kq ≤ k) ∧ Aside0 (Kd.R (Kd.int .i64) 3 wc w.heap.size (fun k_ => some k_ ≠ (v790 : Value).ownBlock) v786 t784) ∧ Aside0 (Kd.R (Kd.int .i64) 3 wc w.heap.size (fun k_ => some k_ ≠ (v786 : Value).ownBlock) v790 t788) ∧ Aside0 (Below w.heap.size w wc))
    case first =>
      have H := HC9.out
      clear HC9
      by_cases c14 : t785 = 0
      · rw [if_pos c14] at H
        have c14b0 : (t785 == 0) = true := beq_iff_eq.mpr c14
        have c14b1 : (t785 != 0) = false := bne_eq_false_iff_eq.mpr c14
        clear c14
        (first | rw [c14b0] | (simp only [i64_w, i32_w]; rw [c14b0]) | skip)
        by_cases c15 : t789 = 0
        · rw [if_pos c15] at H
          have c15b0 : (t789 == 0) = true := beq_iff_eq.mpr c15
          have c15b1 : (t789 != 0) = false := bne_eq_false_iff_eq.mpr c15
          clear c15
          by_cases c16 : t793 = 0
          · rw [if_pos c16] at H
            have c16b0 : (t793 == 0) = true := beq_iff_eq.mpr c16
            have c16b1 : (t793 != 0) = false := bne_eq_false_iff_eq.mpr c16
            clear c16
            by_cases c17 : t797 = 0
            · rw [if_pos c17] at H
              have c17b0 : (t797 == 0) = true := beq_iff_eq.mpr c17
              have c17b1 : (t797 != 0) = false := bne_eq_false_iff_eq.mpr c17
              clear c17
              by_cases c18 : (t784.length : Int) = (l0.length : Int)
              · rw [if_pos c18] at H
                have c18b0 : ((t784.length : Int) == (l0.length : Int)) = true := beq_iff_eq.mpr c18
                have c18b1 : ((t784.length : Int) != (l0.length : Int)) = false := bne_eq_false_iff_eq.mpr c18
                have c18b2 : (t784.length == l0.length) = true := by first | simpa using c18 | (simp at c18 ⊢; omega)
                clear c18
                by_cases c19 : (t788.length : Int) = (wrap64 (2 * (l0.length : Int)))
                · rw [if_pos c19] at H
                  have c19b0 : ((t788.length : Int) == (wrap64 (2 * (l0.length : Int)))) = true := beq_iff_eq.mpr c19
                  have c19b1 : ((t788.length : Int) != (wrap64 (2 * (l0.length : Int)))) = false := bne_eq_false_iff_eq.mpr c19
                  clear c19
                  replace H := Option.bind_eq_some_iff.mp H
                  obtain ⟨t800, A200, H⟩ := H
                  replace H : (chicorylaw07_DigitsBytes.j0 k l0 t784 t788 (!t800)) = some true := H
                  have A20 := Aside0.mk A200
                  clear A200
                  have H' := Aside0.mk H
                  clear H
                  obtain ⟨Ao21, co21, eo21⟩ := Kd.R_slice HO787.out
                  subst eo21
                  obtain ⟨Ao22, co22, eo22⟩ := Kd.R_slice HO791.out
                  subst eo22
                  obtain ⟨Ao23, co23, eo23⟩ := Kd.R_slice HO795.out
                  subst eo23
                  obtain ⟨Ao24, co24, eo24⟩ := Kd.R_slice HO799.out
                  subst eo24
                  go_wp2_with (first | (go_at_call 27; (with_reducible refine (chicorylaw07_Ints.calls k _ _ t792 _ _ t796 t800 _ ?side1 ?side2 ?side3 ?side4 A20.out).mono ?_); (case side1 => repeat (first | exact (Kd.R_reads' HO795.out).2.2 | (with_reducible refine Kd.C_alloc ?_ _) | (with_reducible refine Kd.C_drewN ?_ _) | (with_reducible refine Kd.C_drew ?_))); (case side2 => exact (Kd.R_reads' HO795.out).2.1); (case side3 => repeat (first | exact (Kd.R_reads' HO799.out).2.2 | (with_reducible refine Kd.C_alloc ?_ _) | (with_reducible refine Kd.C_drewN ?_ _) | (with_reducible refine Kd.C_drew ?_))); (case side4 => exact (Kd.R_reads' HO799.out).2.1); rintro e w' ⟨rfl, ⟨nd, rfl⟩⟩; (try first | exact ⟨rfl, _, World.drewN_drewN _ _ _⟩ | exact ⟨rfl, _, Eq.trans (World.drewN_drewN _ _ _) (congrArg (World.drewN _) (Nat.add_assoc _ _ _))⟩)))
                  repeat (go_quiet (first | (go_at_call 27; (with_reducible refine (chicorylaw07_Ints.calls k _ _ t792 _ _ t796 t800 _ ?side1 ?side2 ?side3 ?side4 A20.out).mono ?_); (case side1 => repeat (first | exact (Kd.R_reads' HO795.out).2.2 | (with_reducible refine Kd.C_alloc ?_ _) | (with_reducible refine Kd.C_drewN ?_ _) | (with_reducible refine Kd.C_drew ?_))); (case side2 => exact (Kd.R_reads' HO795.out).2.1); (case side3 => repeat (first | exact (Kd.R_reads' HO799.out).2.2 | (with_reducible refine Kd.C_alloc ?_ _) | (with_reducible refine Kd.C_drewN ?_ _) | (with_reducible refine Kd.C_drew ?_))); (case side4 => exact (Kd.R_reads' HO799.out).2.1); rintro e w' ⟨rfl, ⟨nd, rfl⟩⟩; (try first | exact ⟨rfl, _, World.drewN_drewN _ _ _⟩ | exact ⟨rfl, _, Eq.trans (World.drewN_drewN _ _ _) (congrArg (World.drewN _) (Nat.add_assoc _ _ _))⟩))); try go_wp2_with (first | (go_at_call 27; (with_reducible refine (chicorylaw07_Ints.calls k _ _ t792 _ _ t796 t800 _ ?side1 ?side2 ?side3 ?side4 A20.out).mono ?_); (case side1 => repeat (first | exact (Kd.R_reads' HO795.out).2.2 | (with_reducible refine Kd.C_alloc ?_ _) | (with_reducible refine Kd.C_drewN ?_ _) | (with_reducible refine Kd.C_drew ?_))); (case side2 => exact (Kd.R_reads' HO795.out).2.1); (case side3 => repeat (first | exact (Kd.R_reads' HO799.out).2.2 | (with_reducible refine Kd.C_alloc ?_ _) | (with_reducible refine Kd.C_drewN ?_ _) | (with_reducible refine Kd.C_drew ?_))); (case side4 => exact (Kd.R_reads' HO799.out).2.1); rintro e w' ⟨rfl, ⟨nd, rfl⟩⟩; (try first | exact ⟨rfl, _, World.drewN_drewN _ _ _⟩ | exact ⟨rfl, _, Eq.trans (World.drewN_drewN _ _ _) (congrArg (World.drewN _) (Nat.add_assoc _ _ _))⟩))))
                  go_meet
                  case rel => exact ⟨_, (!t800), (by first | rfl | (simp; done) | (simp [*]; done)), H', ⟨by first | omega | exact Nat.le_refl _⟩, ⟨by (with_reducible repeat (first | apply Kd.R_alloc | apply Kd.R_drewN | apply Kd.R_drew)); exact Kd.R_mono HO787.out (fun _ hk => hk.1.1.2)⟩, ⟨by (with_reducible repeat (first | apply Kd.R_alloc | apply Kd.R_drewN | apply Kd.R_drew)); exact Kd.R_mono HO791.out (fun _ hk => hk.1.1.2)⟩, ⟨by repeat (first | (with_reducible first | exact HB.out | apply below_alloc | apply pw_below_drewN | apply below_drew1) | exact HB.out)⟩⟩
                · rw [if_neg c19] at H
                  have c19b0 : ((t788.length : Int) == (wrap64 (2 * (l0.length : Int)))) = false := beq_eq_false_iff_ne.mpr c19
                  have c19b1 : ((t788.length : Int) != (wrap64 (2 * (l0.length : Int)))) = true := bne_iff_ne.mpr c19
                  have H' := Aside0.mk H
                  clear H
                  obtain ⟨Ao25, co25, eo25⟩ := Kd.R_slice HO787.out
                  subst eo25
                  obtain ⟨Ao26, co26, eo26⟩ := Kd.R_slice HO791.out
                  subst eo26
                  go_wp2
                  repeat (go_quiet (fail); try go_wp2)
                  go_meet
                  case rel => exact ⟨_, (true), (by first | rfl | (simp; done) | (simp [*]; done)), H', ⟨by first | omega | exact Nat.le_refl _⟩, ⟨by (with_reducible repeat (first | apply Kd.R_alloc | apply Kd.R_drewN | apply Kd.R_drew)); exact Kd.R_mono HO787.out (fun _ hk => hk.1.1.2)⟩, ⟨by (with_reducible repeat (first | apply Kd.R_alloc | apply Kd.R_drewN | apply Kd.R_drew)); exact Kd.R_mono HO791.out (fun _ hk => hk.1.1.2)⟩, ⟨by repeat (first | (with_reducible first | exact HB.out | apply below_alloc | apply pw_below_drewN | apply below_drew1) | exact HB.out)⟩⟩
              · rw [if_neg c18] at H
                have c18b0 : ((t784.length : Int) == (l0.length : Int)) = false := beq_eq_false_iff_ne.mpr c18
                have c18b1 : ((t784.length : Int) != (l0.length : Int)) = true := bne_iff_ne.mpr c18
                have c18b2 : (t784.length == l0.length) = false := by first | simpa using c18 | (simp at c18 ⊢; omega)
                have H' := Aside0.mk H
                clear H
                obtain ⟨Ao27, co27, eo27⟩ := Kd.R_slice HO787.out
                subst eo27
                go_wp2
                repeat (go_quiet (fail); try go_wp2)
                go_meet
                case rel => exact ⟨_, (true), (by first | rfl | (simp; done) | (simp [*]; done)), H', ⟨by first | omega | exact Nat.le_refl _⟩, ⟨by (with_reducible repeat (first | apply Kd.R_alloc | apply Kd.R_drewN | apply Kd.R_drew)); exact Kd.R_mono HO787.out (fun _ hk => hk.1.1.2)⟩, ⟨by (with_reducible repeat (first | apply Kd.R_alloc | apply Kd.R_drewN | apply Kd.R_drew)); exact Kd.R_mono HO791.out (fun _ hk => hk.1.1.2)⟩, ⟨by repeat (first | (with_reducible first | exact HB.out | apply below_alloc | apply pw_below_drewN | apply below_drew1) | exact HB.out)⟩⟩
            · rw [if_neg c17] at H
              have c17b0 : (t797 == 0) = false := beq_eq_false_iff_ne.mpr c17
              have c17b1 : (t797 != 0) = true := bne_iff_ne.mpr c17
              have H' := Aside0.mk H
              clear H
              go_wp2
              repeat (go_quiet (fail); try go_wp2)
              go_meet
              case rel => exact ⟨_, (true), (by first | rfl | (simp; done) | (simp [*]; done)), H', ⟨by first | omega | exact Nat.le_refl _⟩, ⟨by (with_reducible repeat (first | apply Kd.R_alloc | apply Kd.R_drewN | apply Kd.R_drew)); exact Kd.R_mono HO787.out (fun _ hk => hk.1.1.2)⟩, ⟨by (with_reducible repeat (first | apply Kd.R_alloc | apply Kd.R_drewN | apply Kd.R_drew)); exact Kd.R_mono HO791.out (fun _ hk => hk.1.1.2)⟩, ⟨by repeat (first | (with_reducible first | exact HB.out | apply below_alloc | apply pw_below_drewN | apply below_drew1) | exact HB.out)⟩⟩
          · rw [if_neg c16] at H
            have c16b0 : (t793 == 0) = false := beq_eq_false_iff_ne.mpr c16
            have c16b1 : (t793 != 0) = true := bne_iff_ne.mpr c16
            have H' := Aside0.mk H
            clear H
            go_wp2
            repeat (go_quiet (fail); try go_wp2)
            go_meet
            case rel => exact ⟨_, (true), (by first | rfl | (simp; done) | (simp [*]; done)), H', ⟨by first | omega | exact Nat.le_refl _⟩, ⟨by (with_reducible repeat (first | apply Kd.R_alloc | apply Kd.R_drewN | apply Kd.R_drew)); exact Kd.R_mono HO787.out (fun _ hk => hk.1.1.2)⟩, ⟨by (with_reducible repeat (first | apply Kd.R_alloc | apply Kd.R_drewN | apply Kd.R_drew)); exact Kd.R_mono HO791.out (fun _ hk => hk.1.1.2)⟩, ⟨by repeat (first | (with_reducible first | exact HB.out | apply below_alloc | apply pw_below_drewN | apply below_drew1) | exact HB.out)⟩⟩
        · rw [if_neg c15] at H
          have c15b0 : (t789 == 0) = false := beq_eq_false_iff_ne.mpr c15
          have c15b1 : (t789 != 0) = true := bne_iff_ne.mpr c15
          have H' := Aside0.mk H
          clear H
          go_wp2
          repeat (go_quiet (fail); try go_wp2)
          go_meet
          case rel => exact ⟨_, (true), (by first | rfl | (simp; done) | (simp [*]; done)), H', ⟨by first | omega | exact Nat.le_refl _⟩, ⟨by (with_reducible repeat (first | apply Kd.R_alloc | apply Kd.R_drewN | apply Kd.R_drew)); exact Kd.R_mono HO787.out (fun _ hk => hk.1.1.2)⟩, ⟨by (with_reducible repeat (first | apply Kd.R_alloc | apply Kd.R_drewN | apply Kd.R_drew)); exact Kd.R_mono HO791.out (fun _ hk => hk.1.1.2)⟩, ⟨by repeat (first | (with_reducible first | exact HB.out | apply below_alloc | apply pw_below_drewN | apply below_drew1) | exact HB.out)⟩⟩
      · rw [if_neg c14] at H
        have c14b0 : (t785 == 0) = false := beq_eq_false_iff_ne.mpr c14
        have c14b1 : (t785 != 0) = true := bne_iff_ne.mpr c14
        (first | rw [c14b0] | (simp only [i64_w, i32_w]; rw [c14b0]) | skip)
        have H' := Aside0.mk H
        clear H
        go_wp2
        repeat (go_quiet (fail); try go_wp2)
        go_meet
        case rel => exact ⟨_, (true), (by first | rfl | (simp; done) | (simp [*]; done)), H', ⟨by first | omega | exact Nat.le_refl _⟩, ⟨by (with_reducible repeat (first | apply Kd.R_alloc | apply Kd.R_drewN | apply Kd.R_drew)); exact Kd.R_mono HO787.out (fun _ hk => hk.1.1.2)⟩, ⟨by (with_reducible repeat (first | apply Kd.R_alloc | apply Kd.R_drewN | apply Kd.R_drew)); exact Kd.R_mono HO791.out (fun _ hk => hk.1.1.2)⟩, ⟨by repeat (first | (with_reducible first | exact HB.out | apply below_alloc | apply pw_below_drewN | apply below_drew1) | exact HB.out)⟩⟩
    case rest =>
      clear HC9
      try clear c1
      try clear c2
      try clear c2b0
      try clear c2b1
      try clear p2
      try clear c3
      try clear p6
      try clear c14
      try clear c14b0
      try clear c14b1
      try clear c15
      try clear c15b0
      try clear c15b1
      try clear c16
      try clear c16b0
      try clear c16b1
      try clear c17
      try clear c17b0
      try clear c17b1
      try clear c18
      try clear c18b0
      try clear c18b1
      try clear c18b2
      try clear c19
      try clear c19b0
      try clear c19b1
      obtain ⟨kq, x70_8, rfl, HA, HJ8, HO_3, HO_5, HB⟩ := hcut
      cases kq with
      | zero => exact absurd HA.out (by simp [chicorylaw07_DigitsBytes.j0])
      | succ kj8 =>
        have H := HA.out
        clear HA
        simp only [chicorylaw07_DigitsBytes.j0] at H
        by_cases c28 : x70_8 = true
        · subst c28
          have H1 : (some false) = some true := by rw [if_pos rfl] at H; exact H
          clear H
          have H := H1
          clear H1
          exact absurd H (by simp)
        · replace c28 := Bool.eq_false_iff.mpr c28
          subst c28
          have H1 : (chicorylaw07_DigitsBytes.l0 kj8 l0 t784 t788 0) = some true := by rw [if_neg (show ¬ (false = true) by decide)] at H; exact H
          clear H
          have H := H1
          clear H1
          have H' := Aside0.mk H
          clear H
          go_wp2
          repeat (go_quiet (fail); try go_wp2)
          go_loopg [11] kj8 (fun kq v11 w' => ∃ (x11_2 : Int), v11 = .int .i64 x11_2 ∧ Aside0 (chicorylaw07_DigitsBytes.l0 kq l0 t784 t788 x11_2 = some true) ∧ Aside0 (kq ≤ kj8) ∧ Aside0 (Kd.R (Kd.int .i64) 3 w' w.heap.size (fun k_ => some k_ ≠ (v790 : Value).ownBlock) v786 t784) ∧ Aside0 (Kd.R (Kd.int .i64) 3 w' w.heap.size (fun k_ => some k_ ≠ (v786 : Value).ownBlock) v790 t788) ∧ Aside0 (Below w.heap.size w w'))
          case atStart => exact ⟨(0), (by first | rfl | (simp; done) | (simp [*]; done)), H', ⟨Nat.le_refl _⟩, ⟨by (with_reducible repeat (first | apply Kd.R_alloc | apply Kd.R_drewN | apply Kd.R_drew)); exact HO_3.out⟩, ⟨by (with_reducible repeat (first | apply Kd.R_alloc | apply Kd.R_drewN | apply Kd.R_drew)); exact HO_5.out⟩, ⟨by repeat (first | (with_reducible first | exact HB.out | apply below_alloc | apply pw_below_drewN | apply below_drew1) | exact HB.out)⟩⟩
          case round =>
            clear H'
            try clear c1
            try clear c2
            try clear c2b0
            try clear c2b1
            try clear p2
            try clear c3
            try clear p6
            try clear c14
            try clear c14b0
            try clear c14b1
            try clear c15
            try clear c15b0
            try clear c15b1
            try clear c16
            try clear c16b0
            try clear c16b1
            try clear c17
            try clear c17b0
            try clear c17b1
            try clear c18
            try clear c18b0
            try clear c18b1
            try clear c18b2
            try clear c19
            try clear c19b0
            try clear c19b1
            try clear c28
            try clear p2
            try clear p6
            obtain ⟨x11_2, rfl, HA, HK2, HO_3, HO_5, HB⟩ := hrel
            cases gk with
            | zero => exact absurd HA.out (by simp [chicorylaw07_DigitsBytes.l0])
            | succ k2 =>
              have H := HA.out
              clear HA
              simp only [chicorylaw07_DigitsBytes.l0] at H
              by_cases c29 : x11_2 < (l0.length : Int)
              · rw [if_pos c29] at H
                have c29b0 : decide (x11_2 < (l0.length : Int)) = true := decide_eq_true c29
                clear c29
                by_cases c30 : 0 ≤ x11_2
                · rw [if_pos c30] at H
                  have c30b0 : decide (0 ≤ x11_2) = true := decide_eq_true c30
                  clear c30
                  by_cases c31 : x11_2 < (t784.length : Int)
                  · rw [if_pos c31] at H
                    have c31b0 : decide (x11_2 < (t784.length : Int)) = true := decide_eq_true c31
                    clear c31
                    by_cases c32 : (rd t784 x11_2) = (wrap64 (rd l0 x11_2))
                    · rw [if_pos c32] at H
                      have c32b0 : ((rd t784 x11_2) == (wrap64 (rd l0 x11_2))) = true := beq_iff_eq.mpr c32
                      have c32b1 : ((rd t784 x11_2) != (wrap64 (rd l0 x11_2))) = false := bne_eq_false_iff_eq.mpr c32
                      clear c32
                      obtain ⟨ji33, hji33⟩ : ∃ j_ : Int, (wrap64 (2 * x11_2)) = j_ := ⟨_, rfl⟩
                      replace H : (if 0 ≤ (ji33) then (if (ji33) < (t788.length : Int) then (if 0 ≤ (wrap64 ((ji33) + 1)) then (if (wrap64 ((ji33) + 1)) < (t788.length : Int) then (if (wrap64 ((rd t788 (ji33)) + (wrap64 (16 * (rd t788 (wrap64 ((ji33) + 1))))))) = (rd t784 x11_2) then (chicorylaw07_DigitsBytes.l0 k2 l0 t784 t788 (wrap64 (x11_2 + 1))) else (some false)) else (none)) else (none)) else (none)) else (none)) = some true := by first | (rw [hji33] at H; exact H) | (simp only [hji33] at H ⊢; exact H)
                      have hji33w : (IntKind.i64.wrap (2 * x11_2)) = ji33 := (i64_w _).trans hji33
                      by_cases c34 : 0 ≤ (ji33)
                      · rw [if_pos c34] at H
                        have c34b0 : decide (0 ≤ (ji33)) = true := decide_eq_true c34
                        clear c34
                        by_cases c35 : (ji33) < (t788.length : Int)
                        · rw [if_pos c35] at H
                          have c35b0 : decide ((ji33) < (t788.length : Int)) = true := decide_eq_true c35
                          clear c35
                          obtain ⟨ji36, hji36⟩ : ∃ j_ : Int, (wrap64 ((ji33) + 1)) = j_ := ⟨_, rfl⟩
                          replace H : (if 0 ≤ (ji36) then (if (ji36) < (t788.length : Int) then (if (wrap64 ((rd t788 (ji33)) + (wrap64 (16 * (rd t788 (ji36)))))) = (rd t784 x11_2) then (chicorylaw07_DigitsBytes.l0 k2 l0 t784 t788 (wrap64 (x11_2 + 1))) else (some false)) else (none)) else (none)) = some true := by first | (rw [hji36] at H; exact H) | (simp only [hji36] at H ⊢; exact H)
                          have hji36w : (IntKind.i64.wrap ((ji33) + 1)) = ji36 := (i64_w _).trans hji36
                          by_cases c37 : 0 ≤ (ji36)
                          · rw [if_pos c37] at H
                            have c37b0 : decide (0 ≤ (ji36)) = true := decide_eq_true c37
                            clear c37
                            by_cases c38 : (ji36) < (t788.length : Int)
                            · rw [if_pos c38] at H
                              have c38b0 : decide ((ji36) < (t788.length : Int)) = true := decide_eq_true c38
                              clear c38
                              by_cases c39 : (wrap64 ((rd t788 (ji33)) + (wrap64 (16 * (rd t788 (ji36)))))) = (rd t784 x11_2)
                              · rw [if_pos c39] at H
                                have c39b0 : ((wrap64 ((rd t788 (ji33)) + (wrap64 (16 * (rd t788 (ji36)))))) == (rd t784 x11_2)) = true := beq_iff_eq.mpr c39
                                have c39b1 : ((wrap64 ((rd t788 (ji33)) + (wrap64 (16 * (rd t788 (ji36)))))) != (rd t784 x11_2)) = false := bne_eq_false_iff_eq.mpr c39
                                clear c39
                                have H' := Aside0.mk H
                                clear H
                                obtain ⟨Ao40, co40, eo40⟩ := Kd.R_slice HO_3.out
                                subst eo40
                                have p801 : 0 ≤ (x11_2 : Int) := of_decide_eq_true (by first | (with_reducible assumption) | assumption)
                                have q801 : x11_2 < (t784.length : Int) := of_decide_eq_true (by first | (with_reducible assumption) | assumption)
                                obtain ⟨ad801, e801, hx801_0⟩ := Kd.at_int (Kd.R_reads' HO_3.out).2.2 x11_2 p801 q801
                                cases e801
                                replace p801 := eq_true p801
                                replace q801 := eq_true q801
                                have p802 : 0 ≤ (x11_2 : Int) := of_decide_eq_true (by first | (with_reducible assumption) | assumption)
                                have q802 : x11_2 < (l0.length : Int) := of_decide_eq_true (by first | (with_reducible assumption) | assumption)
                                obtain ⟨ad802, e802, hx802_0⟩ := Kd.at_int HR0.out x11_2 p802 q802
                                cases e802
                                replace hx802_0 := (HB.out.cell (World.block_lt_of_cell? w _ hx802_0)).trans hx802_0
                                replace p802 := eq_true p802
                                replace q802 := eq_true q802
                                obtain ⟨Ao41, co41, eo41⟩ := Kd.R_slice HO_5.out
                                subst eo41
                                have p803 : 0 ≤ ((ji33) : Int) := of_decide_eq_true (by first | (with_reducible assumption) | assumption)
                                have q803 : (ji33) < (t788.length : Int) := of_decide_eq_true (by first | (with_reducible assumption) | assumption)
                                obtain ⟨ad803, e803, hx803_0⟩ := Kd.at_int (Kd.R_reads' HO_5.out).2.2 (ji33) p803 q803
                                cases e803
                                replace p803 := eq_true p803
                                replace q803 := eq_true q803
                                have p804 : 0 ≤ ((ji36) : Int) := of_decide_eq_true (by first | (with_reducible assumption) | assumption)
                                have q804 : (ji36) < (t788.length : Int) := of_decide_eq_true (by first | (with_reducible assumption) | assumption)
                                obtain ⟨ad804, e804, hx804_0⟩ := Kd.at_int (Kd.R_reads' HO_5.out).2.2 (ji36) p804 q804
                                obtain rfl : ad803 = ad804 := (by injection e804)
                                replace p804 := eq_true p804
                                replace q804 := eq_true q804
                                have p805 : 0 ≤ (x11_2 : Int) := of_decide_eq_true (by first | (with_reducible assumption) | assumption)
                                have q805 : x11_2 < (t784.length : Int) := of_decide_eq_true (by first | (with_reducible assumption) | assumption)
                                obtain ⟨ad805, e805, hx805_0⟩ := Kd.at_int (Kd.R_reads' HO_3.out).2.2 x11_2 p805 q805
                                obtain rfl : ad801 = ad805 := (by injection e805)
                                replace p805 := eq_true p805
                                replace q805 := eq_true q805
                                go_wp2
                                repeat (go_quiet (fail); try go_wp2)
                                go_roundg k2
                                case measure => have := HJ8.out; have := HK2.out; omega
                                case rel => exact ⟨(wrap64 (x11_2 + 1)), (by first | rfl | (simp; done) | (simp [*]; done)), H', ⟨by have := HJ8.out; have := HK2.out; omega⟩, ⟨by (with_reducible repeat (first | apply Kd.R_alloc | apply Kd.R_drewN | apply Kd.R_drew)); exact HO_3.out⟩, ⟨by (with_reducible repeat (first | apply Kd.R_alloc | apply Kd.R_drewN | apply Kd.R_drew)); exact HO_5.out⟩, ⟨by repeat (first | (with_reducible first | exact HB.out | apply below_alloc | apply pw_below_drewN | apply below_drew1) | exact HB.out)⟩⟩
                              · rw [if_neg c39] at H
                                have c39b0 : ((wrap64 ((rd t788 (ji33)) + (wrap64 (16 * (rd t788 (ji36)))))) == (rd t784 x11_2)) = false := beq_eq_false_iff_ne.mpr c39
                                have c39b1 : ((wrap64 ((rd t788 (ji33)) + (wrap64 (16 * (rd t788 (ji36)))))) != (rd t784 x11_2)) = true := bne_iff_ne.mpr c39
                                exact absurd H (by simp)
                            · rw [if_neg c38] at H
                              exact absurd H (by simp)
                          · rw [if_neg c37] at H
                            exact absurd H (by simp)
                        · rw [if_neg c35] at H
                          exact absurd H (by simp)
                      · rw [if_neg c34] at H
                        exact absurd H (by simp)
                    · rw [if_neg c32] at H
                      have c32b0 : ((rd t784 x11_2) == (wrap64 (rd l0 x11_2))) = false := beq_eq_false_iff_ne.mpr c32
                      have c32b1 : ((rd t784 x11_2) != (wrap64 (rd l0 x11_2))) = true := bne_iff_ne.mpr c32
                      exact absurd H (by simp)
                  · rw [if_neg c31] at H
                    exact absurd H (by simp)
                · rw [if_neg c30] at H
                  exact absurd H (by simp)
              · rw [if_neg c29] at H
                have c29b0 : decide (x11_2 < (l0.length : Int)) = false := decide_eq_false c29
                clear c29
                replace H := Option.bind_eq_some_iff.mp H
                obtain ⟨t806, A450, H⟩ := H
                replace H : (some t806) = some true := H
                have A45 := Aside0.mk A450
                clear A450
                obtain rfl := Option.some.inj H
                go_wp2_with (first | (go_at_call 24; (with_reducible refine (chicorylaw07_awake.calls k2  true _ A45.out).mono ?_); rintro e w46 ⟨rfl, hb⟩; have n0_ := Aside0.mk (Kd.R_below (by (with_reducible repeat (first | apply Kd.R_alloc | apply Kd.R_drewN | apply Kd.R_drew)); exact HO_3.out) hb); have n1_ := Aside0.mk (Kd.R_below (by (with_reducible repeat (first | apply Kd.R_alloc | apply Kd.R_drewN | apply Kd.R_drew)); exact HO_5.out) hb); have n2_ := Aside0.mk (below_step (by repeat (first | (with_reducible first | exact HB.out | apply below_alloc | apply pw_below_drewN | apply below_drew1) | exact HB.out)) hb); clear HO_3; clear HO_5; clear HB; have HO_3 := n0_; have HO_5 := n1_; have HB := n2_; clear n0_ n1_ n2_; (try clear hb); (try clear hb2); (try clear hk); (try clear hi)))
                repeat (go_quiet (first | (go_at_call 24; (with_reducible refine (chicorylaw07_awake.calls k2  true _ A45.out).mono ?_); rintro e w46 ⟨rfl, hb⟩; have n0_ := Aside0.mk (Kd.R_below (by (with_reducible repeat (first | apply Kd.R_alloc | apply Kd.R_drewN | apply Kd.R_drew)); exact HO_3.out) hb); have n1_ := Aside0.mk (Kd.R_below (by (with_reducible repeat (first | apply Kd.R_alloc | apply Kd.R_drewN | apply Kd.R_drew)); exact HO_5.out) hb); have n2_ := Aside0.mk (below_step (by repeat (first | (with_reducible first | exact HB.out | apply below_alloc | apply pw_below_drewN | apply below_drew1) | exact HB.out)) hb); clear HO_3; clear HO_5; clear HB; have HO_3 := n0_; have HO_5 := n1_; have HB := n2_; clear n0_ n1_ n2_; (try clear hb); (try clear hb2); (try clear hk); (try clear hi))); try go_wp2_with (first | (go_at_call 24; (with_reducible refine (chicorylaw07_awake.calls k2  true _ A45.out).mono ?_); rintro e w46 ⟨rfl, hb⟩; have n0_ := Aside0.mk (Kd.R_below (by (with_reducible repeat (first | apply Kd.R_alloc | apply Kd.R_drewN | apply Kd.R_drew)); exact HO_3.out) hb); have n1_ := Aside0.mk (Kd.R_below (by (with_reducible repeat (first | apply Kd.R_alloc | apply Kd.R_drewN | apply Kd.R_drew)); exact HO_5.out) hb); have n2_ := Aside0.mk (below_step (by repeat (first | (with_reducible first | exact HB.out | apply below_alloc | apply pw_below_drewN | apply below_drew1) | exact HB.out)) hb); clear HO_3; clear HO_5; clear HB; have HO_3 := n0_; have HO_5 := n1_; have HB := n2_; clear n0_ n1_ n2_; (try clear hb); (try clear hb2); (try clear hk); (try clear hi))))
                go_ret
                exact ⟨by first | rfl | (simp [errW_none, errW_some] <;> rfl) | (simp [*, errW_none, errW_some] <;> rfl), by repeat (first | (with_reducible first | exact HB.out | apply below_alloc | apply pw_below_drewN | apply below_drew1) | exact HB.out)⟩

/-- THE ONE PURE STATEMENT of chicorylaw07_DigitsBytes: yours. -/
def chicorylaw07_DigitsBytes.Pure : Prop := ∀ (l0 : List Int), l0.length ≤ maxLen → l0.length * 1 ≤ 140737488351232 → (∀ x ∈ l0, (Lit.int .u8 x).wf = true) → ∃ k, chicorylaw07_DigitsBytes.f k l0 = some true
theorem chicorylaw07_DigitsBytes.walk (P : chicorylaw07_DigitsBytes.Pure) (a0 : Option Addr) (len0 cap0 : Nat) (z0 : List Int) (w : World) (w0 : (a0 = none ∧ len0 = 0 ∧ cap0 = 0 ∧ z0 = []) ∨ ∃ x, a0 = some x ∧ len0 ≤ cap0 ∧ cap0 ≤ maxLen ∧ z0.length = cap0 ∧ (∀ i, i < z0.length → w.cell? (x.add i) = some (.int .u8 (z0.getD i 0))) ∧ ∀ n ∈ z0, (Lit.int .u8 n).wf = true) (y0 : len0 * 1 ≤ 140737488351232) :
    Calls Try.prog 3 #[.slice a0 len0 cap0] w fun e w' => e = .returned (.bool true) ∧ Below w.heap.size w w' := by
  obtain ⟨l0, rfl, hr0, hm0, hw0, hc0⟩ := ReadsInt.ofRowC w0
  obtain ⟨k, h⟩ := P l0 hm0 y0 hw0
  refine (chicorylaw07_DigitsBytes.calls k _ _ l0 w (Kd.C_of_reads (d := (0 : Int)) (h1 := fun _ => rfl) hr0) hc0 h).mono ?_
  rintro e w' ⟨rfl, hd⟩
  exact ⟨rfl, hd⟩

end Go.Proofs.Ytdaehflffecllaa.N
