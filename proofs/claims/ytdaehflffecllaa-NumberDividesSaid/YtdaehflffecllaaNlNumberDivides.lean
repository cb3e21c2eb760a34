-- Printed by a program of this session (wip/xprint.py, over the kit's print.py with this session's stand-ins for what that does not take); checked by Lean alone.
import Derived.Test.YtdaehflffecllaaNx0
import Derived.Test.YtdaehflffecllaaNx1
import Derived.Test.YtdaehflffecllaaNx2
import Derived.Test.YtdaehflffecllaaNx3
import Derived.Test.YtdaehflffecllaaNx4
import Derived.Test.YtdaehflffecllaaNx5
namespace Go.Proofs.Ytdaehflffecllaa.N
open Go.RowKit Go.Proofs.YtdaehflffecllaaW.PrintWords Go.Proofs.YtdaehflffecllaaW.PrintLast Go.Proofs.YtdaehflffecllaaW.PrintMore
attribute [local go_sem] max2_int min2_int max_two min_two max_three min_three max_four min_four   -- for this text's walks alone
set_option linter.unusedVariables false
set_option linter.unusedSimpArgs false

/-! ### chicorylaw03_NumberDivides: function 9 -/
def chicorylaw03_NumberDivides.j0 : Nat → List Int → List Int → Bool → Option (Bool)
  | 0, _, _, _ => none
  | k + 1, x0, x1, x18 => if x18 = true then ((chicorylaw03_awake.f k).bind fun t387 => (some t387)) else ((number_Div.f k x0 x1).bind fun bt388 => ((chicoryref03_Bytes.f k x1).bind fun t395 => (if (t395.length : Int) = 0 then (if (bt388.1.length : Int) = 0 then (if (bt388.2.1.length : Int) = 0 then (if bt388.2.2 = 15 then ((chicorylaw03_awake.f k).bind fun t398 => (some t398)) else (some false)) else (some false)) else (some false)) else ((chicoryref03_Bytes.f k x0).bind fun t399 => ((chicoryref03_Div.f k t399 t395).bind fun bt402 => ((chicorylaw03_is.f k bt388.1 bt402.1).bind fun t408 => (if t408 = true then ((chicorylaw03_is.f k bt388.2.1 bt402.2).bind fun t409 => (if t409 = true then (if bt388.2.2 = 0 then ((chicorylaw03_awake.f k).bind fun t410 => (some t410)) else (some false)) else (some false))) else (some false))))))))
def chicorylaw03_NumberDivides.f (k : Nat) (l0 : List Int) (l1 : List Int) : Option (Bool) := (chicorylaw03_few.f l0).bind fun t385 => (if t385 = true then ((chicorylaw03_few.f l1).bind fun t386 => (chicorylaw03_NumberDivides.j0 k l0 l1 (!t386))) else (chicorylaw03_NumberDivides.j0 k l0 l1 true))
theorem chicorylaw03_NumberDivides.mono_l : ∀ k, (∀ y0 y1 y2, LeO (chicorylaw03_NumberDivides.j0 k y0 y1 y2) (chicorylaw03_NumberDivides.j0 (k + 1) y0 y1 y2))
  | 0 => fun _ _ _ r h => by simp [chicorylaw03_NumberDivides.j0] at h
  | k + 1 => by
    have ih0 := chicorylaw03_NumberDivides.mono_l k
    · intro y0 y1 y2
      unfold chicorylaw03_NumberDivides.j0
      repeat' first
      | (with_reducible exact ih0 _ _ _)
      | (with_reducible exact chicorylaw03_awake.mono _)
      | (with_reducible exact chicorylaw03_is.mono _ _ _)
      | (with_reducible exact chicoryref03_Bytes.mono _ _)
      | (with_reducible exact chicoryref03_Div.mono _ _ _)
      | (with_reducible exact number_Div.mono _ _ _)
      | (with_reducible exact LeO.refl _)
      | (with_reducible exact LeO.none _)
      | (with_reducible refine LeO.ite ?_ ?_)
      | (with_reducible refine LeO.bind ?_ (fun _ => ?_))
      | exact ih0 _ _ _
      | exact chicorylaw03_awake.mono _
      | exact chicorylaw03_is.mono _ _ _
      | exact chicoryref03_Bytes.mono _ _
      | exact chicoryref03_Div.mono _ _ _
      | exact number_Div.mono _ _ _
      | exact LeO.none _
      | refine LeO.ite ?_ ?_
      | refine LeO.bind ?_ (fun _ => ?_)
theorem chicorylaw03_NumberDivides.mono : ∀ a0 a1 k, LeO (chicorylaw03_NumberDivides.f k a0 a1) (chicorylaw03_NumberDivides.f (k + 1) a0 a1) := by
  intro a0 a1 k
  have ih0 := chicorylaw03_NumberDivides.mono_l k
  unfold chicorylaw03_NumberDivides.f
  repeat' first
      | (with_reducible exact ih0 _ _ _)
      | (with_reducible exact chicorylaw03_awake.mono _)
      | (with_reducible exact chicorylaw03_is.mono _ _ _)
      | (with_reducible exact chicoryref03_Bytes.mono _ _)
      | (with_reducible exact chicoryref03_Div.mono _ _ _)
      | (with_reducible exact number_Div.mono _ _ _)
      | (with_reducible exact LeO.refl _)
      | (with_reducible exact LeO.none _)
      | (with_reducible refine LeO.ite ?_ ?_)
      | (with_reducible refine LeO.bind ?_ (fun _ => ?_))
      | exact ih0 _ _ _
      | exact chicorylaw03_awake.mono _
      | exact chicorylaw03_is.mono _ _ _
      | exact chicoryref03_Bytes.mono _ _
      | exact chicoryref03_Div.mono _ _ _
      | exact number_Div.mono _ _ _
      | exact LeO.none _
      | refine LeO.ite ?_ ?_
      | refine LeO.bind ?_ (fun _ => ?_)
set_option maxHeartbeats 8000000 in
set_option maxRecDepth 100000 in
theorem chicorylaw03_NumberDivides.calls (k : Nat) (A0 : Option Addr) (c0 : Nat) (l0 : List Int) (A1 : Option Addr) (c1 : Nat) (l1 : List Int) (w : World) (hr0 : Kd.C (Kd.int .u64) w A0 l0.length l0) (hc0 : l0.length ≤ c0) (hr1 : Kd.C (Kd.int .u64) w A1 l1.length l1) (hc1 : l1.length ≤ c1) (h : chicorylaw03_NumberDivides.f k l0 l1 = some true) :
    Calls Try.prog 9 #[.slice A0 l0.length c0, .slice A1 l1.length c1] w fun e w' => e = .returned (.bool true) ∧ Below w.heap.size w w' := by
  have HR0 := Aside0.mk hr0
  have HC0 := Aside0.mk hc0
  clear hr0 hc0
  have HR1 := Aside0.mk hr1
  have HC1 := Aside0.mk hc1
  clear hr1 hc1
  have HB := Aside0.mk (Below.refl w.heap.size w)
  have H : ((chicorylaw03_few.f l0).bind fun t385 => (if t385 = true then ((chicorylaw03_few.f l1).bind fun t386 => (chicorylaw03_NumberDivides.j0 k l0 l1 (!t386))) else (chicorylaw03_NumberDivides.j0 k l0 l1 true))) = some true := h
  clear h
  have HC3 := Aside0.mk H
  clear H
  go_enter Try.func9, Try.ntmps9
  go_upto_region 1 with (fail)
  go_cut [18] (fun v18 wc => ∃ (kq : Nat) (x18_2 : Bool), v18 = .bool x18_2 ∧ Aside0 (chicorylaw03_NumberDivides.j0 kq l0 l1 x18_2 = some true) ∧ Aside0 (kq ≤ k) ∧ Aside0 (Below w.heap.size w wc))
  case first =>
    have H := HC3.out
    clear HC3
    replace H := Option.bind_eq_some_iff.mp H
    obtain ⟨t385, A40, H⟩ := H
    replace H : (if t385 = true then ((chicorylaw03_few.f l1).bind fun t386 => (chicorylaw03_NumberDivides.j0 k l0 l1 (!t386))) else (chicorylaw03_NumberDivides.j0 k l0 l1 true)) = some true := H
    have A4 := Aside0.mk A40
    clear A40
    by_cases c5 : t385 = true
    · subst c5
      have H1 : ((chicorylaw03_few.f l1).bind fun t386 => (chicorylaw03_NumberDivides.j0 k l0 l1 (!t386))) = some true := by rw [if_pos rfl] at H; exact H
      clear H
      have H := H1
      clear H1
      replace H := Option.bind_eq_some_iff.mp H
      obtain ⟨t386, A60, H⟩ := H
      replace H : (chicorylaw03_NumberDivides.j0 k l0 l1 (!t386)) = some true := H
      have A6 := Aside0.mk A60
      clear A60
      have H' := Aside0.mk H
      clear H
      go_wp2_with (first | ((with_reducible refine gate_callee (f := 39) rfl ?_); refine goesL_ (some 12) rfl rfl Try.func39 (by kernel_rfl) rfl #[.slice A0 l0.length c0] rfl (by (try simp only [List.map_toArray, List.map_cons, List.map_nil]); first | done | rfl | (simp only [List.length_drop, List.length_take]; rfl)) ?_; (with_reducible refine (chicorylaw03_few.calls _ _ l0 true _ ?side1 ?side2 A4.out).mono ?_); (case side1 => repeat (first | exact (Kd.C_below HR0.out HB.out) | (with_reducible refine Kd.C_alloc ?_ _) | (with_reducible refine Kd.C_drewN ?_ _) | (with_reducible refine Kd.C_drew ?_))); (case side2 => exact HC0.out); rintro e w' ⟨rfl, ⟨nd, rfl⟩⟩; refine ⟨_, rfl, ?_⟩) | (go_at_call 39; (with_reducible refine (chicorylaw03_few.calls _ _ l1 t386 _ ?side1 ?side2 A6.out).mono ?_); (case side1 => repeat (first | exact (Kd.C_below HR1.out (by repeat (first | (with_reducible first | exact HB.out | apply below_alloc | apply pw_below_drewN | apply below_drew1) | exact HB.out))) | (with_reducible refine Kd.C_alloc ?_ _) | (with_reducible refine Kd.C_drewN ?_ _) | (with_reducible refine Kd.C_drew ?_))); (case side2 => exact HC1.out); rintro e w' ⟨rfl, ⟨nd, rfl⟩⟩))
      go_meet
      case rel => exact ⟨_, (!t386), (by first | rfl | (simp; done) | (simp [*]; done)), H', ⟨by first | omega | exact Nat.le_refl _⟩, ⟨by repeat (first | (with_reducible first | exact HB.out | apply below_alloc | apply pw_below_drewN | apply below_drew1) | exact HB.out)⟩⟩
    · replace c5 := Bool.eq_false_iff.mpr c5
      subst c5
      have H1 : (chicorylaw03_NumberDivides.j0 k l0 l1 true) = some true := by rw [if_neg (show ¬ (false = true) by decide)] at H; exact H
      clear H
      have H := H1
      clear H1
      have H' := Aside0.mk H
      clear H
      go_wp2_with (first | ((with_reducible refine gate_callee (f := 39) rfl ?_); refine goesL_ (some 12) rfl rfl Try.func39 (by kernel_rfl) rfl #[.slice A0 l0.length c0] rfl (by (try simp only [List.map_toArray, List.map_cons, List.map_nil]); first | done | rfl | (simp only [List.length_drop, List.length_take]; rfl)) ?_; (with_reducible refine (chicorylaw03_few.calls _ _ l0 false _ ?side1 ?side2 A4.out).mono ?_); (case side1 => repeat (first | exact (Kd.C_below HR0.out HB.out) | (with_reducible refine Kd.C_alloc ?_ _) | (with_reducible refine Kd.C_drewN ?_ _) | (with_reducible refine Kd.C_drew ?_))); (case side2 => exact HC0.out); rintro e w' ⟨rfl, ⟨nd, rfl⟩⟩; refine ⟨_, rfl, ?_⟩))
      go_meet
      case rel => exact ⟨_, (true), (by first | rfl | (simp; done) | (simp [*]; done)), H', ⟨by first | omega | exact Nat.le_refl _⟩, ⟨by repeat (first | (with_reducible first | exact HB.out | apply below_alloc | apply pw_below_drewN | apply below_drew1) | exact HB.out)⟩⟩
  case rest =>
    clear HC3
    try clear c1
    try clear p2
    try clear c3
    try clear c5
    obtain ⟨kq, x18_2, rfl, HA, HJ2, HB⟩ := hcut
    cases kq with
    | zero => exact absurd HA.out (by simp [chicorylaw03_NumberDivides.j0])
    | succ kj2 =>
      have H := HA.out
      clear HA
      simp only [chicorylaw03_NumberDivides.j0] at H
      by_cases c7 : x18_2 = true
      · subst c7
        have H1 : ((chicorylaw03_awake.f kj2).bind fun t387 => (some t387)) = some true := by rw [if_pos rfl] at H; exact H
        clear H
        have H := H1
        clear H1
        replace H := Option.bind_eq_some_iff.mp H
        obtain ⟨t387, A80, H⟩ := H
        replace H : (some t387) = some true := H
        have A8 := Aside0.mk A80
        clear A80
        obtain rfl := Option.some.inj H
        go_wp2_with (first | ((with_reducible refine gate_callee (f := 40) rfl ?_); refine goesL_ (some 19) rfl rfl Try.func40 (by kernel_rfl) rfl #[] rfl (by (try simp only [List.map_toArray, List.map_cons, List.map_nil]); first | done | rfl | (simp only [List.length_drop, List.length_take]; rfl)) ?_; (with_reducible refine (chicorylaw03_awake.calls kj2  true _ A8.out).mono ?_); rintro e w9 ⟨rfl, hb⟩; refine ⟨_, rfl, ?_⟩; have n0_ := Aside0.mk (below_step (by repeat (first | (with_reducible first | exact HB.out | apply below_alloc | apply pw_below_drewN | apply below_drew1) | exact HB.out)) hb); clear HB; have HB := n0_; clear n0_; (try clear hb); (try clear hb2); (try clear hk); (try clear hi)))
        go_ret
        exact ⟨by first | rfl | (simp [errW_none, errW_some] <;> rfl) | (simp [*, errW_none, errW_some] <;> rfl), by repeat (first | (with_reducible first | exact HB.out | apply below_alloc | apply pw_below_drewN | apply below_drew1) | exact HB.out)⟩
      · replace c7 := Bool.eq_false_iff.mpr c7
        subst c7
        have H1 : ((number_Div.f kj2 l0 l1).bind fun bt388 => ((chicoryref03_Bytes.f kj2 l1).bind fun t395 => (if (t395.length : Int) = 0 then (if (bt388.1.length : Int) = 0 then (if (bt388.2.1.length : Int) = 0 then (if bt388.2.2 = 15 then ((chicorylaw03_awake.f kj2).bind fun t398 => (some t398)) else (some false)) else (some false)) else (some false)) else ((chicoryref03_Bytes.f kj2 l0).bind fun t399 => ((chicoryref03_Div.f kj2 t399 t395).bind fun bt402 => ((chicorylaw03_is.f kj2 bt388.1 bt402.1).bind fun t408 => (if t408 = true then ((chicorylaw03_is.f kj2 bt388.2.1 bt402.2).bind fun t409 => (if t409 = true then (if bt388.2.2 = 0 then ((chicorylaw03_awake.f kj2).bind fun t410 => (some t410)) else (some false)) else (some false))) else (some false)))))))) = some true := by rw [if_neg (show ¬ (false = true) by decide)] at H; exact H
        clear H
        have H := H1
        clear H1
        replace H := Option.bind_eq_some_iff.mp H
        obtain ⟨⟨t388, t391, t394⟩, A100, H⟩ := H
        replace H : ((chicoryref03_Bytes.f kj2 l1).bind fun t395 => (if (t395.length : Int) = 0 then (if (t388.length : Int) = 0 then (if (t391.length : Int) = 0 then (if t394 = 15 then ((chicorylaw03_awake.f kj2).bind fun t398 => (some t398)) else (some false)) else (some false)) else (some false)) else ((chicoryref03_Bytes.f kj2 l0).bind fun t399 => ((chicoryref03_Div.f kj2 t399 t395).bind fun bt402 => ((chicorylaw03_is.f kj2 t388 bt402.1).bind fun t408 => (if t408 = true then ((chicorylaw03_is.f kj2 t391 bt402.2).bind fun t409 => (if t409 = true then (if t394 = 0 then ((chicorylaw03_awake.f kj2).bind fun t410 => (some t410)) else (some false)) else (some false))) else (some false))))))) = some true := H
        have A10 := Aside0.mk A100
        clear A100
        replace H := Option.bind_eq_some_iff.mp H
        obtain ⟨t395, A110, H⟩ := H
        replace H : (if (t395.length : Int) = 0 then (if (t388.length : Int) = 0 then (if (t391.length : Int) = 0 then (if t394 = 15 then ((chicorylaw03_awake.f kj2).bind fun t398 => (some t398)) else (some false)) else (some false)) else (some false)) else ((chicoryref03_Bytes.f kj2 l0).bind fun t399 => ((chicoryref03_Div.f kj2 t399 t395).bind fun bt402 => ((chicorylaw03_is.f kj2 t388 bt402.1).bind fun t408 => (if t408 = true then ((chicorylaw03_is.f kj2 t391 bt402.2).bind fun t409 => (if t409 = true then (if t394 = 0 then ((chicorylaw03_awake.f kj2).bind fun t410 => (some t410)) else (some false)) else (some false))) else (some false)))))) = some true := H
        have A11 := Aside0.mk A110
        clear A110
        by_cases c12 : (t395.length : Int) = 0
        · rw [if_pos c12] at H
          have c12b0 : ((t395.length : Int) == 0) = true := beq_iff_eq.mpr c12
          have c12b1 : ((t395.length : Int) != 0) = false := bne_eq_false_iff_eq.mpr c12
          clear c12
          by_cases c13 : (t388.length : Int) = 0
          · rw [if_pos c13] at H
            have c13b0 : ((t388.length : Int) == 0) = true := beq_iff_eq.mpr c13
            have c13b1 : ((t388.length : Int) != 0) = false := bne_eq_false_iff_eq.mpr c13
            clear c13
            by_cases c14 : (t391.length : Int) = 0
            · rw [if_pos c14] at H
              have c14b0 : ((t391.length : Int) == 0) = true := beq_iff_eq.mpr c14
              have c14b1 : ((t391.length : Int) != 0) = false := bne_eq_false_iff_eq.mpr c14
              clear c14
              by_cases c15 : t394 = 15
              · rw [if_pos c15] at H
                have c15b0 : (t394 == 15) = true := beq_iff_eq.mpr c15
                have c15b1 : (t394 != 15) = false := bne_eq_false_iff_eq.mpr c15
                clear c15
                replace H := Option.bind_eq_some_iff.mp H
                obtain ⟨t398, A160, H⟩ := H
                replace H : (some t398) = some true := H
                have A16 := Aside0.mk A160
                clear A160
                obtain rfl := Option.some.inj H
                go_wp2_with (first | ((with_reducible refine gate_callee (f := 54) rfl ?_); refine goesL_ (some 23) rfl rfl Try.func54 (by kernel_rfl) rfl #[.slice A0 l0.length c0, .slice A1 l1.length c1] rfl (by (try simp only [List.map_toArray, List.map_cons, List.map_nil]); first | done | rfl | (simp only [List.length_drop, List.length_take]; rfl)) ?_; (with_reducible refine (number_Div.calls kj2 _ _ l0 (fun k_ => k_ < w.heap.size) _ _ l1 t388 t391 t394 _ ?side1 ?side2 ?side3 A10.out).mono ?_); (case side1 => repeat (first | exact (Kd.C_below HR0.out HB.out) | (with_reducible refine Kd.C_alloc ?_ _) | (with_reducible refine Kd.C_drewN ?_ _) | (with_reducible refine Kd.C_drew ?_))); (case side2 => exact HC0.out); (case side3 => exact Kd.V_mk HC1.out (Kd.F_below (Kd.C_F (Kd.heap_int .u64) HR1.out) (by repeat (first | (with_reducible first | exact HB.out | apply below_alloc | apply pw_below_drewN | apply below_drew1) | exact HB.out)))); rintro e w17 ⟨v389, v392, rfl, ho0, ho1, hb⟩; refine ⟨_, rfl, ?_⟩; have n0_ := Aside0.mk (Kd.V_lower (Kd.V_mono (ok' := fun k_ => True) ho0 (fun k_ hk_ => trivial)) (below_size (by repeat (first | (with_reducible first | exact HB.out | apply below_alloc | apply pw_below_drewN | apply below_drew1) | exact HB.out)))); have n1_ := Aside0.mk (Kd.V_lower (Kd.V_mono (ok' := fun k_ => True) ho1 (fun k_ hk_ => trivial)) (below_size (by repeat (first | (with_reducible first | exact HB.out | apply below_alloc | apply pw_below_drewN | apply below_drew1) | exact HB.out)))); have n2_ := Aside0.mk (below_step (by repeat (first | (with_reducible first | exact HB.out | apply below_alloc | apply pw_below_drewN | apply below_drew1) | exact HB.out)) hb); clear HB; have HO390 := n0_; have HO393 := n1_; have HB := n2_; clear n0_ n1_ n2_; (try clear hb); (try clear hb2); (try clear hk); (try clear hi); (try clear ho0); (try clear ho1)) | ((with_reducible refine gate_callee (f := 41) rfl ?_); refine goesL_ (some 28) rfl rfl Try.func41 (by kernel_rfl) rfl #[.slice A1 l1.length c1] rfl (by (try simp only [List.map_toArray, List.map_cons, List.map_nil]); first | done | rfl | (simp only [List.length_drop, List.length_take]; rfl)) ?_; (with_reducible refine (chicoryref03_Bytes.calls kj2 _ _ l1 t395 _ ?side1 ?side2 A11.out).mono ?_); (case side1 => repeat (first | exact (Kd.C_below HR1.out HB.out) | (with_reducible refine Kd.C_alloc ?_ _) | (with_reducible refine Kd.C_drewN ?_ _) | (with_reducible refine Kd.C_drew ?_))); (case side2 => exact HC1.out); rintro e w18 ⟨v396, rfl, ho0, hb⟩; refine ⟨_, rfl, ?_⟩; have n0_ := Aside0.mk (Kd.V_elder' (by (with_reducible repeat (first | apply Kd.V_alloc | apply Kd.V_drewN | apply Kd.V_drew)); exact HO390.out) (Kd.R_base ho0) hb); have n1_ := Aside0.mk (Kd.V_elder' (by (with_reducible repeat (first | apply Kd.V_alloc | apply Kd.V_drewN | apply Kd.V_drew)); exact HO393.out) (Kd.R_base ho0) hb); have n2_ := Aside0.mk (Kd.R_lower ho0 (below_size (by repeat (first | (with_reducible first | exact HB.out | apply below_alloc | apply pw_below_drewN | apply below_drew1) | exact HB.out)))); have n3_ := Aside0.mk (below_step (by repeat (first | (with_reducible first | exact HB.out | apply below_alloc | apply pw_below_drewN | apply below_drew1) | exact HB.out)) hb); clear HO390; clear HO393; clear HB; have HO390 := n0_; have HO393 := n1_; have HO397 := n2_; have HB := n3_; clear n0_ n1_ n2_ n3_; (try clear hb); (try clear hb2); (try clear hk); (try clear hi); (try clear ho0); obtain ⟨Ao19, co19, eo19⟩ := Kd.R_slice HO397.out; subst eo19; obtain ⟨Ao20, co20, eo20⟩ := Kd.V_slice HO390.out; subst eo20; obtain ⟨Ao21, co21, eo21⟩ := Kd.V_slice HO393.out; subst eo21) | (go_at_call 40; (with_reducible refine (chicorylaw03_awake.calls kj2  true _ A16.out).mono ?_); rintro e w22 ⟨rfl, hb⟩; have n0_ := Aside0.mk (Kd.V_below (by (with_reducible repeat (first | apply Kd.V_alloc | apply Kd.V_drewN | apply Kd.V_drew)); exact HO390.out) hb); have n1_ := Aside0.mk (Kd.V_below (by (with_reducible repeat (first | apply Kd.V_alloc | apply Kd.V_drewN | apply Kd.V_drew)); exact HO393.out) hb); have n2_ := Aside0.mk (Kd.R_below (by (with_reducible repeat (first | apply Kd.R_alloc | apply Kd.R_drewN | apply Kd.R_drew)); exact HO397.out) hb); have n3_ := Aside0.mk (below_step (by repeat (first | (with_reducible first | exact HB.out | apply below_alloc | apply pw_below_drewN | apply below_drew1) | exact HB.out)) hb); clear HO390; clear HO393; clear HO397; clear HB; have HO390 := n0_; have HO393 := n1_; have HO397 := n2_; have HB := n3_; clear n0_ n1_ n2_ n3_; (try clear hb); (try clear hb2); (try clear hk); (try clear hi)))
                go_ret
                exact ⟨by first | rfl | (simp [errW_none, errW_some] <;> rfl) | (simp [*, errW_none, errW_some] <;> rfl), by repeat (first | (with_reducible first | exact HB.out | apply below_alloc | apply pw_below_drewN | apply below_drew1) | exact HB.out)⟩
              · rw [if_neg c15] at H
                have c15b0 : (t394 == 15) = false := beq_eq_false_iff_ne.mpr c15
                have c15b1 : (t394 != 15) = true := bne_iff_ne.mpr c15
                exact absurd H (by simp)
            · rw [if_neg c14] at H
              have c14b0 : ((t391.length : Int) == 0) = false := beq_eq_false_iff_ne.mpr c14
              have c14b1 : ((t391.length : Int) != 0) = true := bne_iff_ne.mpr c14
              have c14b2 : ¬ (t391 = []) := fun h_ => c14 (by rw [h_]; rfl)
              exact absurd H (by simp)
          · rw [if_neg c13] at H
            have c13b0 : ((t388.length : Int) == 0) = false := beq_eq_false_iff_ne.mpr c13
            have c13b1 : ((t388.length : Int) != 0) = true := bne_iff_ne.mpr c13
            have c13b2 : ¬ (t388 = []) := fun h_ => c13 (by rw [h_]; rfl)
            exact absurd H (by simp)
        · rw [if_neg c12] at H
          have c12b0 : ((t395.length : Int) == 0) = false := beq_eq_false_iff_ne.mpr c12
          have c12b1 : ((t395.length : Int) != 0) = true := bne_iff_ne.mpr c12
          have c12b2 : ¬ (t395 = []) := fun h_ => c12 (by rw [h_]; rfl)
          replace H := Option.bind_eq_some_iff.mp H
          obtain ⟨t399, A370, H⟩ := H
          replace H : ((chicoryref03_Div.f kj2 t399 t395).bind fun bt402 => ((chicorylaw03_is.f kj2 t388 bt402.1).bind fun t408 => (if t408 = true then ((chicorylaw03_is.f kj2 t391 bt402.2).bind fun t409 => (if t409 = true then (if t394 = 0 then ((chicorylaw03_awake.f kj2).bind fun t410 => (some t410)) else (some false)) else (some false))) else (some false)))) = some true := H
          have A37 := Aside0.mk A370
          clear A370
          replace H := Option.bind_eq_some_iff.mp H
          obtain ⟨⟨t402, t405⟩, A380, H⟩ := H
          replace H : ((chicorylaw03_is.f kj2 t388 t402).bind fun t408 => (if t408 = true then ((chicorylaw03_is.f kj2 t391 t405).bind fun t409 => (if t409 = true then (if t394 = 0 then ((chicorylaw03_awake.f kj2).bind fun t410 => (some t410)) else (some false)) else (some false))) else (some false))) = some true := H
          have A38 := Aside0.mk A380
          clear A380
          replace H := Option.bind_eq_some_iff.mp H
          obtain ⟨t408, A390, H⟩ := H
          replace H : (if t408 = true then ((chicorylaw03_is.f kj2 t391 t405).bind fun t409 => (if t409 = true then (if t394 = 0 then ((chicorylaw03_awake.f kj2).bind fun t410 => (some t410)) else (some false)) else (some false))) else (some false)) = some true := H
          have A39 := Aside0.mk A390
          clear A390
          by_cases c40 : t408 = true
          · subst c40
            have H1 : ((chicorylaw03_is.f kj2 t391 t405).bind fun t409 => (if t409 = true then (if t394 = 0 then ((chicorylaw03_awake.f kj2).bind fun t410 => (some t410)) else (some false)) else (some false))) = some true := by rw [if_pos rfl] at H; exact H
            clear H
            have H := H1
            clear H1
            replace H := Option.bind_eq_some_iff.mp H
            obtain ⟨t409, A410, H⟩ := H
            replace H : (if t409 = true then (if t394 = 0 then ((chicorylaw03_awake.f kj2).bind fun t410 => (some t410)) else (some false)) else (some false)) = some true := H
            have A41 := Aside0.mk A410
            clear A410
            by_cases c42 : t409 = true
            · subst c42
              have H1 : (if t394 = 0 then ((chicorylaw03_awake.f kj2).bind fun t410 => (some t410)) else (some false)) = some true := by rw [if_pos rfl] at H; exact H
              clear H
              have H := H1
              clear H1
              by_cases c43 : t394 = 0
              · rw [if_pos c43] at H
                have c43b0 : (t394 == 0) = true := beq_iff_eq.mpr c43
                have c43b1 : (t394 != 0) = false := bne_eq_false_iff_eq.mpr c43
                clear c43
                replace H := Option.bind_eq_some_iff.mp H
                obtain ⟨t410, A440, H⟩ := H
                replace H : (some t410) = some true := H
                have A44 := Aside0.mk A440
                clear A440
                obtain rfl := Option.some.inj H
                go_wp2_with (first | ((with_reducible refine gate_callee (f := 54) rfl ?_); refine goesL_ (some 23) rfl rfl Try.func54 (by kernel_rfl) rfl #[.slice A0 l0.length c0, .slice A1 l1.length c1] rfl (by (try simp only [List.map_toArray, List.map_cons, List.map_nil]); first | done | rfl | (simp only [List.length_drop, List.length_take]; rfl)) ?_; (with_reducible refine (number_Div.calls kj2 _ _ l0 (fun k_ => k_ < w.heap.size) _ _ l1 t388 t391 t394 _ ?side1 ?side2 ?side3 A10.out).mono ?_); (case side1 => repeat (first | exact (Kd.C_below HR0.out HB.out) | (with_reducible refine Kd.C_alloc ?_ _) | (with_reducible refine Kd.C_drewN ?_ _) | (with_reducible refine Kd.C_drew ?_))); (case side2 => exact HC0.out); (case side3 => exact Kd.V_mk HC1.out (Kd.F_below (Kd.C_F (Kd.heap_int .u64) HR1.out) (by repeat (first | (with_reducible first | exact HB.out | apply below_alloc | apply pw_below_drewN | apply below_drew1) | exact HB.out)))); rintro e w45 ⟨v389, v392, rfl, ho0, ho1, hb⟩; refine ⟨_, rfl, ?_⟩; have n0_ := Aside0.mk (Kd.V_lower (Kd.V_mono (ok' := fun k_ => True) ho0 (fun k_ hk_ => trivial)) (below_size (by repeat (first | (with_reducible first | exact HB.out | apply below_alloc | apply pw_below_drewN | apply below_drew1) | exact HB.out)))); have n1_ := Aside0.mk (Kd.V_lower (Kd.V_mono (ok' := fun k_ => True) ho1 (fun k_ hk_ => trivial)) (below_size (by repeat (first | (with_reducible first | exact HB.out | apply below_alloc | apply pw_below_drewN | apply below_drew1) | exact HB.out)))); have n2_ := Aside0.mk (below_step (by repeat (first | (with_reducible first | exact HB.out | apply below_alloc | apply pw_below_drewN | apply below_drew1) | exact HB.out)) hb); clear HB; have HO390 := n0_; have HO393 := n1_; have HB := n2_; clear n0_ n1_ n2_; (try clear hb); (try clear hb2); (try clear hk); (try clear hi); (try clear ho0); (try clear ho1)) | ((with_reducible refine gate_callee (f := 41) rfl ?_); refine goesL_ (some 28) rfl rfl Try.func41 (by kernel_rfl) rfl #[.slice A1 l1.length c1] rfl (by (try simp only [List.map_toArray, List.map_cons, List.map_nil]); first | done | rfl | (simp only [List.length_drop, List.length_take]; rfl)) ?_; (with_reducible refine (chicoryref03_Bytes.calls kj2 _ _ l1 t395 _ ?side1 ?side2 A11.out).mono ?_); (case side1 => repeat (first | exact (Kd.C_below HR1.out HB.out) | (with_reducible refine Kd.C_alloc ?_ _) | (with_reducible refine Kd.C_drewN ?_ _) | (with_reducible refine Kd.C_drew ?_))); (case side2 => exact HC1.out); rintro e w46 ⟨v396, rfl, ho0, hb⟩; refine ⟨_, rfl, ?_⟩; have n0_ := Aside0.mk (Kd.V_elder' (by (with_reducible repeat (first | apply Kd.V_alloc | apply Kd.V_drewN | apply Kd.V_drew)); exact HO390.out) (Kd.R_base ho0) hb); have n1_ := Aside0.mk (Kd.V_elder' (by (with_reducible repeat (first | apply Kd.V_alloc | apply Kd.V_drewN | apply Kd.V_drew)); exact HO393.out) (Kd.R_base ho0) hb); have n2_ := Aside0.mk (Kd.R_lower ho0 (below_size (by repeat (first | (with_reducible first | exact HB.out | apply below_alloc | apply pw_below_drewN | apply below_drew1) | exact HB.out)))); have n3_ := Aside0.mk (below_step (by repeat (first | (with_reducible first | exact HB.out | apply below_alloc | apply pw_below_drewN | apply below_drew1) | exact HB.out)) hb); clear HO390; clear HO393; clear HB; have HO390 := n0_; have HO393 := n1_; have HO397 := n2_; have HB := n3_; clear n0_ n1_ n2_ n3_; (try clear hb); (try clear hb2); (try clear hk); (try clear hi); (try clear ho0); obtain ⟨Ao47, co47, eo47⟩ := Kd.R_slice HO397.out; subst eo47) | ((with_reducible refine gate_callee (f := 41) rfl ?_); refine goesL_ (some 49) rfl rfl Try.func41 (by kernel_rfl) rfl #[.slice A0 l0.length c0] rfl (by (try simp only [List.map_toArray, List.map_cons, List.map_nil]); first | done | rfl | (simp only [List.length_drop, List.length_take]; rfl)) ?_; (with_reducible refine (chicoryref03_Bytes.calls kj2 _ _ l0 t399 _ ?side1 ?side2 A37.out).mono ?_); (case side1 => repeat (first | exact (Kd.C_below HR0.out HB.out) | (with_reducible refine Kd.C_alloc ?_ _) | (with_reducible refine Kd.C_drewN ?_ _) | (with_reducible refine Kd.C_drew ?_))); (case side2 => exact HC0.out); rintro e w48 ⟨v400, rfl, ho0, hb⟩; refine ⟨_, rfl, ?_⟩; have n0_ := Aside0.mk (Kd.V_elder' (by (with_reducible repeat (first | apply Kd.V_alloc | apply Kd.V_drewN | apply Kd.V_drew)); exact HO390.out) (Kd.R_base ho0) hb); have n1_ := Aside0.mk (Kd.V_elder' (by (with_reducible repeat (first | apply Kd.V_alloc | apply Kd.V_drewN | apply Kd.V_drew)); exact HO393.out) (Kd.R_base ho0) hb); have n2_ := Aside0.mk (Kd.R_elder' (by (with_reducible repeat (first | apply Kd.R_alloc | apply Kd.R_drewN | apply Kd.R_drew)); exact HO397.out) (Kd.R_base ho0) hb); have n3_ := Aside0.mk (Kd.R_lower (Kd.R_new' ho0 (Kd.R_lt (by (with_reducible repeat (first | apply Kd.R_alloc | apply Kd.R_drewN | apply Kd.R_drew)); exact HO397.out))) (below_size (by repeat (first | (with_reducible first | exact HB.out | apply below_alloc | apply pw_below_drewN | apply below_drew1) | exact HB.out)))); have n4_ := Aside0.mk (below_step (by repeat (first | (with_reducible first | exact HB.out | apply below_alloc | apply pw_below_drewN | apply below_drew1) | exact HB.out)) hb); clear HO390; clear HO393; clear HO397; clear HB; have HO390 := n0_; have HO393 := n1_; have HO397 := n2_; have HO401 := n3_; have HB := n4_; clear n0_ n1_ n2_ n3_ n4_; (try clear hb); (try clear hb2); (try clear hk); (try clear hi); (try clear ho0); obtain ⟨Ao49, co49, eo49⟩ := Kd.R_slice HO401.out; subst eo49) | ((with_reducible refine gate_callee (f := 55) rfl ?_); refine goesL_ (some 51) rfl rfl Try.func55 (by kernel_rfl) rfl #[.slice Ao49 t399.length co49, .slice Ao47 t395.length co47] rfl (by (try simp only [List.map_toArray, List.map_cons, List.map_nil]); first | done | rfl | (simp only [List.length_drop, List.length_take]; rfl)) ?_; (with_reducible refine (chicoryref03_Div.calls kj2 _ _ t399 _ _ t395 t402 t405 _ ?side1 ?side2 ?side3 ?side4 A38.out).mono ?_); (case side1 => repeat (first | exact (Kd.R_reads' HO401.out).2.2 | (with_reducible refine Kd.C_alloc ?_ _) | (with_reducible refine Kd.C_drewN ?_ _) | (with_reducible refine Kd.C_drew ?_))); (case side2 => exact (Kd.R_reads' HO401.out).2.1); (case side3 => repeat (first | exact (Kd.R_reads' HO397.out).2.2 | (with_reducible refine Kd.C_alloc ?_ _) | (with_reducible refine Kd.C_drewN ?_ _) | (with_reducible refine Kd.C_drew ?_))); (case side4 => exact (Kd.R_reads' HO397.out).2.1); rintro e w50 ⟨v403, v406, rfl, ho0, ho1, hb⟩; refine ⟨_, rfl, ?_⟩; have n0_ := Aside0.mk (Kd.V_below (by (with_reducible repeat (first | apply Kd.V_alloc | apply Kd.V_drewN | apply Kd.V_drew)); exact HO390.out) hb); have n1_ := Aside0.mk (Kd.V_below (by (with_reducible repeat (first | apply Kd.V_alloc | apply Kd.V_drewN | apply Kd.V_drew)); exact HO393.out) hb); have n2_ := Aside0.mk (Kd.R_below (by (with_reducible repeat (first | apply Kd.R_alloc | apply Kd.R_drewN | apply Kd.R_drew)); exact HO397.out) hb); have n3_ := Aside0.mk (Kd.R_below (by (with_reducible repeat (first | apply Kd.R_alloc | apply Kd.R_drewN | apply Kd.R_drew)); exact HO401.out) hb); have n4_ := Aside0.mk (Kd.V_lower (Kd.V_mono (ok' := fun k_ => some k_ ≠ (.slice Ao47 t395.length co47 : Value).ownBlock ∧ some k_ ≠ (.slice Ao49 t399.length co49 : Value).ownBlock) ho0 (fun k_ hk_ => ⟨(Kd.fresh' (Kd.R_lt (by (with_reducible repeat (first | apply Kd.R_alloc | apply Kd.R_drewN | apply Kd.R_drew)); exact HO397.out)) k_ hk_), (Kd.fresh' (Kd.R_lt (by (with_reducible repeat (first | apply Kd.R_alloc | apply Kd.R_drewN | apply Kd.R_drew)); exact HO401.out)) k_ hk_)⟩)) (below_size (by repeat (first | (with_reducible first | exact HB.out | apply below_alloc | apply pw_below_drewN | apply below_drew1) | exact HB.out)))); have n5_ := Aside0.mk (Kd.V_lower (Kd.V_mono (ok' := fun k_ => some k_ ≠ (.slice Ao47 t395.length co47 : Value).ownBlock ∧ some k_ ≠ (.slice Ao49 t399.length co49 : Value).ownBlock) ho1 (fun k_ hk_ => ⟨(Kd.fresh' (Kd.R_lt (by (with_reducible repeat (first | apply Kd.R_alloc | apply Kd.R_drewN | apply Kd.R_drew)); exact HO397.out)) k_ hk_), (Kd.fresh' (Kd.R_lt (by (with_reducible repeat (first | apply Kd.R_alloc | apply Kd.R_drewN | apply Kd.R_drew)); exact HO401.out)) k_ hk_)⟩)) (below_size (by repeat (first | (with_reducible first | exact HB.out | apply below_alloc | apply pw_below_drewN | apply below_drew1) | exact HB.out)))); have n6_ := Aside0.mk (below_step (by repeat (first | (with_reducible first | exact HB.out | apply below_alloc | apply pw_below_drewN | apply below_drew1) | exact HB.out)) hb); clear HO390; clear HO393; clear HO397; clear HO401; clear HB; have HO390 := n0_; have HO393 := n1_; have HO397 := n2_; have HO401 := n3_; have HO404 := n4_; have HO407 := n5_; have HB := n6_; clear n0_ n1_ n2_ n3_ n4_ n5_ n6_; (try clear hb); (try clear hb2); (try clear hk); (try clear hi); (try clear ho0); (try clear ho1); obtain ⟨Ao51, co51, eo51⟩ := Kd.V_slice HO390.out; subst eo51; obtain ⟨Ao52, co52, eo52⟩ := Kd.V_slice HO404.out; subst eo52) | ((with_reducible refine gate_callee (f := 47) rfl ?_); refine goesL_ (some 56) rfl rfl Try.func47 (by kernel_rfl) rfl #[.slice Ao51 t388.length co51, .slice Ao52 t402.length co52] rfl (by (try simp only [List.map_toArray, List.map_cons, List.map_nil]); first | done | rfl | (simp only [List.length_drop, List.length_take]; rfl)) ?_; (with_reducible refine (chicorylaw03_is.calls kj2 _ _ t388 _ _ t402 true _ ?side1 ?side2 ?side3 ?side4 A39.out).mono ?_); (case side1 => repeat (first | exact (Kd.V_reads' HO390.out).2.2 | (with_reducible refine Kd.C_alloc ?_ _) | (with_reducible refine Kd.C_drewN ?_ _) | (with_reducible refine Kd.C_drew ?_))); (case side2 => exact (Kd.V_reads' HO390.out).2.1); (case side3 => repeat (first | exact (Kd.V_reads' HO404.out).2.2 | (with_reducible refine Kd.C_alloc ?_ _) | (with_reducible refine Kd.C_drewN ?_ _) | (with_reducible refine Kd.C_drew ?_))); (case side4 => exact (Kd.V_reads' HO404.out).2.1); rintro e w53 ⟨rfl, hb⟩; refine ⟨_, rfl, ?_⟩; have n0_ := Aside0.mk (Kd.V_below (by (with_reducible repeat (first | apply Kd.V_alloc | apply Kd.V_drewN | apply Kd.V_drew)); exact HO390.out) hb); have n1_ := Aside0.mk (Kd.V_below (by (with_reducible repeat (first | apply Kd.V_alloc | apply Kd.V_drewN | apply Kd.V_drew)); exact HO393.out) hb); have n2_ := Aside0.mk (Kd.R_below (by (with_reducible repeat (first | apply Kd.R_alloc | apply Kd.R_drewN | apply Kd.R_drew)); exact HO397.out) hb); have n3_ := Aside0.mk (Kd.R_below (by (with_reducible repeat (first | apply Kd.R_alloc | apply Kd.R_drewN | apply Kd.R_drew)); exact HO401.out) hb); have n4_ := Aside0.mk (Kd.V_below (by (with_reducible repeat (first | apply Kd.V_alloc | apply Kd.V_drewN | apply Kd.V_drew)); exact HO404.out) hb); have n5_ := Aside0.mk (Kd.V_below (by (with_reducible repeat (first | apply Kd.V_alloc | apply Kd.V_drewN | apply Kd.V_drew)); exact HO407.out) hb); have n6_ := Aside0.mk (below_step (by repeat (first | (with_reducible first | exact HB.out | apply below_alloc | apply pw_below_drewN | apply below_drew1) | exact HB.out)) hb); clear HO390; clear HO393; clear HO397; clear HO401; clear HO404; clear HO407; clear HB; have HO390 := n0_; have HO393 := n1_; have HO397 := n2_; have HO401 := n3_; have HO404 := n4_; have HO407 := n5_; have HB := n6_; clear n0_ n1_ n2_ n3_ n4_ n5_ n6_; (try clear hb); (try clear hb2); (try clear hk); (try clear hi); obtain ⟨Ao54, co54, eo54⟩ := Kd.V_slice HO393.out; subst eo54; obtain ⟨Ao55, co55, eo55⟩ := Kd.V_slice HO407.out; subst eo55) | (go_at_call 47; (with_reducible refine (chicorylaw03_is.calls kj2 _ _ t391 _ _ t405 true _ ?side1 ?side2 ?side3 ?side4 A41.out).mono ?_); (case side1 => repeat (first | exact (Kd.V_reads' HO393.out).2.2 | (with_reducible refine Kd.C_alloc ?_ _) | (with_reducible refine Kd.C_drewN ?_ _) | (with_reducible refine Kd.C_drew ?_))); (case side2 => exact (Kd.V_reads' HO393.out).2.1); (case side3 => repeat (first | exact (Kd.V_reads' HO407.out).2.2 | (with_reducible refine Kd.C_alloc ?_ _) | (with_reducible refine Kd.C_drewN ?_ _) | (with_reducible refine Kd.C_drew ?_))); (case side4 => exact (Kd.V_reads' HO407.out).2.1); rintro e w56 ⟨rfl, hb⟩; have n0_ := Aside0.mk (Kd.V_below (by (with_reducible repeat (first | apply Kd.V_alloc | apply Kd.V_drewN | apply Kd.V_drew)); exact HO390.out) hb); have n1_ := Aside0.mk (Kd.V_below (by (with_reducible repeat (first | apply Kd.V_alloc | apply Kd.V_drewN | apply Kd.V_drew)); exact HO393.out) hb); have n2_ := Aside0.mk (Kd.R_below (by (with_reducible repeat (first | apply Kd.R_alloc | apply Kd.R_drewN | apply Kd.R_drew)); exact HO397.out) hb); have n3_ := Aside0.mk (Kd.R_below (by (with_reducible repeat (first | apply Kd.R_alloc | apply Kd.R_drewN | apply Kd.R_drew)); exact HO401.out) hb); have n4_ := Aside0.mk (Kd.V_below (by (with_reducible repeat (first | apply Kd.V_alloc | apply Kd.V_drewN | apply Kd.V_drew)); exact HO404.out) hb); have n5_ := Aside0.mk (Kd.V_below (by (with_reducible repeat (first | apply Kd.V_alloc | apply Kd.V_drewN | apply Kd.V_drew)); exact HO407.out) hb); have n6_ := Aside0.mk (below_step (by repeat (first | (with_reducible first | exact HB.out | apply below_alloc | apply pw_below_drewN | apply below_drew1) | exact HB.out)) hb); clear HO390; clear HO393; clear HO397; clear HO401; clear HO404; clear HO407; clear HB; have HO390 := n0_; have HO393 := n1_; have HO397 := n2_; have HO401 := n3_; have HO404 := n4_; have HO407 := n5_; have HB := n6_; clear n0_ n1_ n2_ n3_ n4_ n5_ n6_; (try clear hb); (try clear hb2); (try clear hk); (try clear hi)) | (go_at_call 40; (with_reducible refine (chicorylaw03_awake.calls kj2  true _ A44.out).mono ?_); rintro e w57 ⟨rfl, hb⟩; have n0_ := Aside0.mk (Kd.V_below (by (with_reducible repeat (first | apply Kd.V_alloc | apply Kd.V_drewN | apply Kd.V_drew)); exact HO390.out) hb); have n1_ := Aside0.mk (Kd.V_below (by (with_reducible repeat (first | apply Kd.V_alloc | apply Kd.V_drewN | apply Kd.V_drew)); exact HO393.out) hb); have n2_ := Aside0.mk (Kd.R_below (by (with_reducible repeat (first | apply Kd.R_alloc | apply Kd.R_drewN | apply Kd.R_drew)); exact HO397.out) hb); have n3_ := Aside0.mk (Kd.R_below (by (with_reducible repeat (first | apply Kd.R_alloc | apply Kd.R_drewN | apply Kd.R_drew)); exact HO401.out) hb); have n4_ := Aside0.mk (Kd.V_below (by (with_reducible repeat (first | apply Kd.V_alloc | apply Kd.V_drewN | apply Kd.V_drew)); exact HO404.out) hb); have n5_ := Aside0.mk (Kd.V_below (by (with_reducible repeat (first | apply Kd.V_alloc | apply Kd.V_drewN | apply Kd.V_drew)); exact HO407.out) hb); have n6_ := Aside0.mk (below_step (by repeat (first | (with_reducible first | exact HB.out | apply below_alloc | apply pw_below_drewN | apply below_drew1) | exact HB.out)) hb); clear HO390; clear HO393; clear HO397; clear HO401; clear HO404; clear HO407; clear HB; have HO390 := n0_; have HO393 := n1_; have HO397 := n2_; have HO401 := n3_; have HO404 := n4_; have HO407 := n5_; have HB := n6_; clear n0_ n1_ n2_ n3_ n4_ n5_ n6_; (try clear hb); (try clear hb2); (try clear hk); (try clear hi)))
                go_ret
                exact ⟨by first | rfl | (simp [errW_none, errW_some] <;> rfl) | (simp [*, errW_none, errW_some] <;> rfl), by repeat (first | (with_reducible first | exact HB.out | apply below_alloc | apply pw_below_drewN | apply below_drew1) | exact HB.out)⟩
              · rw [if_neg c43] at H
                have c43b0 : (t394 == 0) = false := beq_eq_false_iff_ne.mpr c43
                have c43b1 : (t394 != 0) = true := bne_iff_ne.mpr c43
                exact absurd H (by simp)
            · replace c42 := Bool.eq_false_iff.mpr c42
              subst c42
              have H1 : (some false) = some true := by rw [if_neg (show ¬ (false = true) by decide)] at H; exact H
              clear H
              have H := H1
              clear H1
              exact absurd H (by simp)
          · replace c40 := Bool.eq_false_iff.mpr c40
            subst c40
            have H1 : (some false) = some true := by rw [if_neg (show ¬ (false = true) by decide)] at H; exact H
            clear H
            have H := H1
            clear H1
            exact absurd H (by simp)

/-- THE ONE PURE STATEMENT of chicorylaw03_NumberDivides: yours. -/
def chicorylaw03_NumberDivides.Pure : Prop := ∀ (l0 : List Int) (l1 : List Int), l0.length ≤ maxLen → l0.length * 8 ≤ 140737488351232 → (∀ x ∈ l0, (Lit.int .u64 x).wf = true) → l1.length ≤ maxLen → l1.length * 8 ≤ 140737488351232 → (∀ x ∈ l1, (Lit.int .u64 x).wf = true) → ∃ k, chicorylaw03_NumberDivides.f k l0 l1 = some true
theorem chicorylaw03_NumberDivides.walk (P : chicorylaw03_NumberDivides.Pure) (a0 : Option Addr) (len0 cap0 : Nat) (z0 : List Int) (a1 : Option Addr) (len1 cap1 : Nat) (z1 : List Int) (w : World) (w0 : (a0 = none ∧ len0 = 0 ∧ cap0 = 0 ∧ z0 = []) ∨ ∃ x, a0 = some x ∧ len0 ≤ cap0 ∧ cap0 ≤ maxLen ∧ z0.length = cap0 ∧ (∀ i, i < z0.length → w.cell? (x.add i) = some (.int .u64 (z0.getD i 0))) ∧ ∀ n ∈ z0, (Lit.int .u64 n).wf = true) (y0 : len0 * 8 ≤ 140737488351232) (w1 : (a1 = none ∧ len1 = 0 ∧ cap1 = 0 ∧ z1 = []) ∨ ∃ x, a1 = some x ∧ len1 ≤ cap1 ∧ cap1 ≤ maxLen ∧ z1.length = cap1 ∧ (∀ i, i < z1.length → w.cell? (x.add i) = some (.int .u64 (z1.getD i 0))) ∧ ∀ n ∈ z1, (Lit.int .u64 n).wf = true) (y1 : len1 * 8 ≤ 140737488351232) :
    Calls Try.prog 9 #[.slice a0 len0 cap0, .slice a1 len1 cap1] w fun e w' => e = .returned (.bool true) ∧ Below w.heap.size w w' := by
  obtain ⟨l0, rfl, hr0, hm0, hw0, hc0⟩ := ReadsInt.ofRowC w0
  obtain ⟨l1, rfl, hr1, hm1, hw1, hc1⟩ := ReadsInt.ofRowC w1
  obtain ⟨k, h⟩ := P l0 l1 hm0 y0 hw0 hm1 y1 hw1
  refine (chicorylaw03_NumberDivides.calls k _ _ l0 _ _ l1 w (Kd.C_of_reads (d := (0 : Int)) (h1 := fun _ => rfl) hr0) hc0 (Kd.C_of_reads (d := (0 : Int)) (h1 := fun _ => rfl) hr1) hc1 h).mono ?_
  rintro e w' ⟨rfl, hd⟩
  exact ⟨rfl, hd⟩

end Go.Proofs.Ytdaehflffecllaa.N
