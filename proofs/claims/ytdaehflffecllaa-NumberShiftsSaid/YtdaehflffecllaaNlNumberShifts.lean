-- Printed by a program of this session (wip/xprint.py, over the kit's print.py with this session's stand-ins for what that does not take); checked by Lean alone.
import Derived.Test.YtdaehflffecllaaNx0
import Derived.Test.YtdaehflffecllaaNx1
import Derived.Test.YtdaehflffecllaaNx3
import Derived.Test.YtdaehflffecllaaNx4
import Derived.Test.YtdaehflffecllaaNx6
namespace Go.Proofs.Ytdaehflffecllaa.N
open Go.RowKit Go.Proofs.YtdaehflffecllaaW.PrintWords Go.Proofs.YtdaehflffecllaaW.PrintLast Go.Proofs.YtdaehflffecllaaW.PrintMore
attribute [local go_sem] max2_int min2_int max_two min_two max_three min_three max_four min_four   -- for this text's walks alone
set_option linter.unusedVariables false
set_option linter.unusedSimpArgs false

/-! ### chicorylaw03_NumberShifts: function 11 -/
mutual
def chicorylaw03_NumberShifts.j0 : Nat → List Int → Int → Bool → Option (Bool)
  | 0, _, _, _ => none
  | k + 1, x0, x1, x25 => if x25 = true then ((chicorylaw03_awake.f k).bind fun t492 => (some t492)) else ((number_Shift.f k x0 x1).bind fun bt493 => (if x1 < (-65536) then (chicorylaw03_NumberShifts.j1 k x0 x1 bt493.1 bt493.2 true) else (chicorylaw03_NumberShifts.j1 k x0 x1 bt493.1 bt493.2 (decide (x1 > 65536)))))
def chicorylaw03_NumberShifts.j1 : Nat → List Int → Int → List Int → Int → Bool → Option (Bool)
  | 0, _, _, _, _, _ => none
  | k + 1, x0, x1, x5, x6, x38 => if x38 = true then (if (x5.length : Int) = 0 then (if x6 = 10 then ((chicorylaw03_awake.f k).bind fun t497 => (some t497)) else (some false)) else (some false)) else ((chicoryref03_Bytes.f k x0).bind fun t498 => ((chicoryref03_Shift.f k t498 x1).bind fun t501 => ((chicorylaw03_is.f k x5 t501).bind fun t504 => (if t504 = true then (if x6 = 0 then ((chicorylaw03_awake.f k).bind fun t505 => (some t505)) else (some false)) else (some false)))))
end
def chicorylaw03_NumberShifts.f (k : Nat) (l0 : List Int) (a1 : Int) : Option (Bool) := (chicorylaw03_few.f l0).bind fun t491 => (if t491 = true then (if a1 ≥ (-65536) then (if a1 < (-3000) then (chicorylaw03_NumberShifts.j0 k l0 a1 true) else (if a1 > 3000 then (chicorylaw03_NumberShifts.j0 k l0 a1 (decide (a1 ≤ 65536))) else (chicorylaw03_NumberShifts.j0 k l0 a1 false))) else (if a1 > 3000 then (chicorylaw03_NumberShifts.j0 k l0 a1 (decide (a1 ≤ 65536))) else (chicorylaw03_NumberShifts.j0 k l0 a1 false))) else (chicorylaw03_NumberShifts.j0 k l0 a1 true))
theorem chicorylaw03_NumberShifts.mono_l : ∀ k, (∀ y0 y1 y2, LeO (chicorylaw03_NumberShifts.j0 k y0 y1 y2) (chicorylaw03_NumberShifts.j0 (k + 1) y0 y1 y2)) ∧ (∀ y0 y1 y2 y3 y4, LeO (chicorylaw03_NumberShifts.j1 k y0 y1 y2 y3 y4) (chicorylaw03_NumberShifts.j1 (k + 1) y0 y1 y2 y3 y4))
  | 0 => ⟨fun _ _ _ r h => by simp [chicorylaw03_NumberShifts.j0] at h, fun _ _ _ _ _ r h => by simp [chicorylaw03_NumberShifts.j1] at h⟩
  | k + 1 => by
    obtain ⟨ih0, ih1⟩ := chicorylaw03_NumberShifts.mono_l k
    refine ⟨?_, ?_⟩
    · intro y0 y1 y2
      unfold chicorylaw03_NumberShifts.j0
      repeat' first
      | (with_reducible exact ih0 _ _ _)
      | (with_reducible exact ih1 _ _ _ _ _)
      | (with_reducible exact chicorylaw03_awake.mono _)
      | (with_reducible exact chicorylaw03_is.mono _ _ _)
      | (with_reducible exact chicoryref03_Bytes.mono _ _)
      | (with_reducible exact chicoryref03_Shift.mono _ _ _)
      | (with_reducible exact number_Shift.mono _ _ _)
      | (with_reducible exact LeO.refl _)
      | (with_reducible exact LeO.none _)
      | (with_reducible refine LeO.ite ?_ ?_)
      | (with_reducible refine LeO.bind ?_ (fun _ => ?_))
      | exact ih0 _ _ _
      | exact ih1 _ _ _ _ _
      | exact chicorylaw03_awake.mono _
      | exact chicorylaw03_is.mono _ _ _
      | exact chicoryref03_Bytes.mono _ _
      | exact chicoryref03_Shift.mono _ _ _
      | exact number_Shift.mono _ _ _
      | exact LeO.none _
      | refine LeO.ite ?_ ?_
      | refine LeO.bind ?_ (fun _ => ?_)
    · intro y0 y1 y2 y3 y4
      unfold chicorylaw03_NumberShifts.j1
      repeat' first
      | (with_reducible exact ih0 _ _ _)
      | (with_reducible exact ih1 _ _ _ _ _)
      | (with_reducible exact chicorylaw03_awake.mono _)
      | (with_reducible exact chicorylaw03_is.mono _ _ _)
      | (with_reducible exact chicoryref03_Bytes.mono _ _)
      | (with_reducible exact chicoryref03_Shift.mono _ _ _)
      | (with_reducible exact number_Shift.mono _ _ _)
      | (with_reducible exact LeO.refl _)
      | (with_reducible exact LeO.none _)
      | (with_reducible refine LeO.ite ?_ ?_)
      | (with_reducible refine LeO.bind ?_ (fun _ => ?_))
      | exact ih0 _ _ _
      | exact ih1 _ _ _ _ _
      | exact chicorylaw03_awake.mono _
      | exact chicorylaw03_is.mono _ _ _
      | exact chicoryref03_Bytes.mono _ _
      | exact chicoryref03_Shift.mono _ _ _
      | exact number_Shift.mono _ _ _
      | exact LeO.none _
      | refine LeO.ite ?_ ?_
      | refine LeO.bind ?_ (fun _ => ?_)
theorem chicorylaw03_NumberShifts.mono : ∀ a0 a1 k, LeO (chicorylaw03_NumberShifts.f k a0 a1) (chicorylaw03_NumberShifts.f (k + 1) a0 a1) := by
  intro a0 a1 k
  obtain ⟨ih0, ih1⟩ := chicorylaw03_NumberShifts.mono_l k
  unfold chicorylaw03_NumberShifts.f
  repeat' first
      | (with_reducible exact ih0 _ _ _)
      | (with_reducible exact ih1 _ _ _ _ _)
      | (with_reducible exact chicorylaw03_awake.mono _)
      | (with_reducible exact chicorylaw03_is.mono _ _ _)
      | (with_reducible exact chicoryref03_Bytes.mono _ _)
      | (with_reducible exact chicoryref03_Shift.mono _ _ _)
      | (with_reducible exact number_Shift.mono _ _ _)
      | (with_reducible exact LeO.refl _)
      | (with_reducible exact LeO.none _)
      | (with_reducible refine LeO.ite ?_ ?_)
      | (with_reducible refine LeO.bind ?_ (fun _ => ?_))
      | exact ih0 _ _ _
      | exact ih1 _ _ _ _ _
      | exact chicorylaw03_awake.mono _
      | exact chicorylaw03_is.mono _ _ _
      | exact chicoryref03_Bytes.mono _ _
      | exact chicoryref03_Shift.mono _ _ _
      | exact number_Shift.mono _ _ _
      | exact LeO.none _
      | refine LeO.ite ?_ ?_
      | refine LeO.bind ?_ (fun _ => ?_)
set_option maxHeartbeats 8000000 in
set_option maxRecDepth 100000 in
theorem chicorylaw03_NumberShifts.calls (k : Nat) (A0 : Option Addr) (c0 : Nat) (l0 : List Int) (a1 : Int) (w : World) (hr0 : Kd.C (Kd.int .u64) w A0 l0.length l0) (hc0 : l0.length ≤ c0) (h : chicorylaw03_NumberShifts.f k l0 a1 = some true) :
    Calls Try.prog 11 #[.slice A0 l0.length c0, .int .i64 a1] w fun e w' => e = .returned (.bool true) ∧ Below w.heap.size w w' := by
  have HR0 := Aside0.mk hr0
  have HC0 := Aside0.mk hc0
  clear hr0 hc0
  have HB := Aside0.mk (Below.refl w.heap.size w)
  have H : ((chicorylaw03_few.f l0).bind fun t491 => (if t491 = true then (if a1 ≥ (-65536) then (if a1 < (-3000) then (chicorylaw03_NumberShifts.j0 k l0 a1 true) else (if a1 > 3000 then (chicorylaw03_NumberShifts.j0 k l0 a1 (decide (a1 ≤ 65536))) else (chicorylaw03_NumberShifts.j0 k l0 a1 false))) else (if a1 > 3000 then (chicorylaw03_NumberShifts.j0 k l0 a1 (decide (a1 ≤ 65536))) else (chicorylaw03_NumberShifts.j0 k l0 a1 false))) else (chicorylaw03_NumberShifts.j0 k l0 a1 true))) = some true := h
  clear h
  have HC3 := Aside0.mk H
  clear H
  go_enter Try.func11, Try.ntmps11
  go_upto_region 1 with (fail)
  go_cut [25] (fun v25 wc => ∃ (kq : Nat) (x25_2 : Bool), v25 = .bool x25_2 ∧ Aside0 (chicorylaw03_NumberShifts.j0 kq l0 a1 x25_2 = some true) ∧ Aside0 (kq ≤ k) ∧ Aside0 (Below w.heap.size w wc))
  case first =>
    have H := HC3.out
    clear HC3
    replace H := Option.bind_eq_some_iff.mp H
    obtain ⟨t491, A40, H⟩ := H
    replace H : (if t491 = true then (if a1 ≥ (-65536) then (if a1 < (-3000) then (chicorylaw03_NumberShifts.j0 k l0 a1 true) else (if a1 > 3000 then (chicorylaw03_NumberShifts.j0 k l0 a1 (decide (a1 ≤ 65536))) else (chicorylaw03_NumberShifts.j0 k l0 a1 false))) else (if a1 > 3000 then (chicorylaw03_NumberShifts.j0 k l0 a1 (decide (a1 ≤ 65536))) else (chicorylaw03_NumberShifts.j0 k l0 a1 false))) else (chicorylaw03_NumberShifts.j0 k l0 a1 true)) = some true := H
    have A4 := Aside0.mk A40
    clear A40
    by_cases c5 : t491 = true
    · subst c5
      have H1 : (if a1 ≥ (-65536) then (if a1 < (-3000) then (chicorylaw03_NumberShifts.j0 k l0 a1 true) else (if a1 > 3000 then (chicorylaw03_NumberShifts.j0 k l0 a1 (decide (a1 ≤ 65536))) else (chicorylaw03_NumberShifts.j0 k l0 a1 false))) else (if a1 > 3000 then (chicorylaw03_NumberShifts.j0 k l0 a1 (decide (a1 ≤ 65536))) else (chicorylaw03_NumberShifts.j0 k l0 a1 false))) = some true := by rw [if_pos rfl] at H; exact H
      clear H
      have H := H1
      clear H1
      by_cases c6 : a1 ≥ (-65536)
      · rw [if_pos c6] at H
        have c6b0 : decide ((-65536) ≤ a1) = true := decide_eq_true c6
        clear c6
        (first | rw [c6b0] | (simp only [i64_w, i32_w]; rw [c6b0]) | skip)
        by_cases c7 : a1 < (-3000)
        · rw [if_pos c7] at H
          have c7b0 : decide (a1 < (-3000)) = true := decide_eq_true c7
          clear c7
          have H' := Aside0.mk H
          clear H
          go_wp2_with (first | ((with_reducible refine gate_callee (f := 39) rfl ?_); refine goesL_ (some 8) rfl rfl Try.func39 (by kernel_rfl) rfl #[.slice A0 l0.length c0] rfl (by (try simp only [List.map_toArray, List.map_cons, List.map_nil]); first | done | rfl | (simp only [List.length_drop, List.length_take]; rfl)) ?_; (with_reducible refine (chicorylaw03_few.calls _ _ l0 true _ ?side1 ?side2 A4.out).mono ?_); (case side1 => repeat (first | exact (Kd.C_below HR0.out HB.out) | (with_reducible refine Kd.C_alloc ?_ _) | (with_reducible refine Kd.C_drewN ?_ _) | (with_reducible refine Kd.C_drew ?_))); (case side2 => exact HC0.out); rintro e w' ⟨rfl, ⟨nd, rfl⟩⟩; refine ⟨_, rfl, ?_⟩))
          go_meet
          case rel => exact ⟨_, (true), (by first | rfl | (simp; done) | (simp [*]; done)), H', ⟨by first | omega | exact Nat.le_refl _⟩, ⟨by repeat (first | (with_reducible first | exact HB.out | apply below_alloc | apply pw_below_drewN | apply below_drew1) | exact HB.out)⟩⟩
        · rw [if_neg c7] at H
          have c7b0 : decide (a1 < (-3000)) = false := decide_eq_false c7
          clear c7
          by_cases c8 : a1 > 3000
          · rw [if_pos c8] at H
            have c8b0 : decide (3000 < a1) = true := decide_eq_true c8
            clear c8
            have H' := Aside0.mk H
            clear H
            go_wp2_with (first | ((with_reducible refine gate_callee (f := 39) rfl ?_); refine goesL_ (some 8) rfl rfl Try.func39 (by kernel_rfl) rfl #[.slice A0 l0.length c0] rfl (by (try simp only [List.map_toArray, List.map_cons, List.map_nil]); first | done | rfl | (simp only [List.length_drop, List.length_take]; rfl)) ?_; (with_reducible refine (chicorylaw03_few.calls _ _ l0 true _ ?side1 ?side2 A4.out).mono ?_); (case side1 => repeat (first | exact (Kd.C_below HR0.out HB.out) | (with_reducible refine Kd.C_alloc ?_ _) | (with_reducible refine Kd.C_drewN ?_ _) | (with_reducible refine Kd.C_drew ?_))); (case side2 => exact HC0.out); rintro e w' ⟨rfl, ⟨nd, rfl⟩⟩; refine ⟨_, rfl, ?_⟩))
            go_meet
            case rel => exact ⟨_, (decide (a1 ≤ 65536)), (by first | rfl | (simp; done) | (simp [*]; done)), H', ⟨by first | omega | exact Nat.le_refl _⟩, ⟨by repeat (first | (with_reducible first | exact HB.out | apply below_alloc | apply pw_below_drewN | apply below_drew1) | exact HB.out)⟩⟩
          · rw [if_neg c8] at H
            have c8b0 : decide (3000 < a1) = false := decide_eq_false c8
            clear c8
            have H' := Aside0.mk H
            clear H
            go_wp2_with (first | ((with_reducible refine gate_callee (f := 39) rfl ?_); refine goesL_ (some 8) rfl rfl Try.func39 (by kernel_rfl) rfl #[.slice A0 l0.length c0] rfl (by (try simp only [List.map_toArray, List.map_cons, List.map_nil]); first | done | rfl | (simp only [List.length_drop, List.length_take]; rfl)) ?_; (with_reducible refine (chicorylaw03_few.calls _ _ l0 true _ ?side1 ?side2 A4.out).mono ?_); (case side1 => repeat (first | exact (Kd.C_below HR0.out HB.out) | (with_reducible refine Kd.C_alloc ?_ _) | (with_reducible refine Kd.C_drewN ?_ _) | (with_reducible refine Kd.C_drew ?_))); (case side2 => exact HC0.out); rintro e w' ⟨rfl, ⟨nd, rfl⟩⟩; refine ⟨_, rfl, ?_⟩))
            go_meet
            case rel => exact ⟨_, (false), (by first | rfl | (simp; done) | (simp [*]; done)), H', ⟨by first | omega | exact Nat.le_refl _⟩, ⟨by repeat (first | (with_reducible first | exact HB.out | apply below_alloc | apply pw_below_drewN | apply below_drew1) | exact HB.out)⟩⟩
      · rw [if_neg c6] at H
        have c6b0 : decide ((-65536) ≤ a1) = false := decide_eq_false c6
        clear c6
        (first | rw [c6b0] | (simp only [i64_w, i32_w]; rw [c6b0]) | skip)
        by_cases c9 : a1 > 3000
        · rw [if_pos c9] at H
          have c9b0 : decide (3000 < a1) = true := decide_eq_true c9
          clear c9
          have H' := Aside0.mk H
          clear H
          go_wp2_with (first | ((with_reducible refine gate_callee (f := 39) rfl ?_); refine goesL_ (some 8) rfl rfl Try.func39 (by kernel_rfl) rfl #[.slice A0 l0.length c0] rfl (by (try simp only [List.map_toArray, List.map_cons, List.map_nil]); first | done | rfl | (simp only [List.length_drop, List.length_take]; rfl)) ?_; (with_reducible refine (chicorylaw03_few.calls _ _ l0 true _ ?side1 ?side2 A4.out).mono ?_); (case side1 => repeat (first | exact (Kd.C_below HR0.out HB.out) | (with_reducible refine Kd.C_alloc ?_ _) | (with_reducible refine Kd.C_drewN ?_ _) | (with_reducible refine Kd.C_drew ?_))); (case side2 => exact HC0.out); rintro e w' ⟨rfl, ⟨nd, rfl⟩⟩; refine ⟨_, rfl, ?_⟩))
          go_meet
          case rel => exact ⟨_, (decide (a1 ≤ 65536)), (by first | rfl | (simp; done) | (simp [*]; done)), H', ⟨by first | omega | exact Nat.le_refl _⟩, ⟨by repeat (first | (with_reducible first | exact HB.out | apply below_alloc | apply pw_below_drewN | apply below_drew1) | exact HB.out)⟩⟩
        · rw [if_neg c9] at H
          have c9b0 : decide (3000 < a1) = false := decide_eq_false c9
          clear c9
          have H' := Aside0.mk H
          clear H
          go_wp2_with (first | ((with_reducible refine gate_callee (f := 39) rfl ?_); refine goesL_ (some 8) rfl rfl Try.func39 (by kernel_rfl) rfl #[.slice A0 l0.length c0] rfl (by (try simp only [List.map_toArray, List.map_cons, List.map_nil]); first | done | rfl | (simp only [List.length_drop, List.length_take]; rfl)) ?_; (with_reducible refine (chicorylaw03_few.calls _ _ l0 true _ ?side1 ?side2 A4.out).mono ?_); (case side1 => repeat (first | exact (Kd.C_below HR0.out HB.out) | (with_reducible refine Kd.C_alloc ?_ _) | (with_reducible refine Kd.C_drewN ?_ _) | (with_reducible refine Kd.C_drew ?_))); (case side2 => exact HC0.out); rintro e w' ⟨rfl, ⟨nd, rfl⟩⟩; refine ⟨_, rfl, ?_⟩))
          go_meet
          case rel => exact ⟨_, (false), (by first | rfl | (simp; done) | (simp [*]; done)), H', ⟨by first | omega | exact Nat.le_refl _⟩, ⟨by repeat (first | (with_reducible first | exact HB.out | apply below_alloc | apply pw_below_drewN | apply below_drew1) | exact HB.out)⟩⟩
    · replace c5 := Bool.eq_false_iff.mpr c5
      subst c5
      have H1 : (chicorylaw03_NumberShifts.j0 k l0 a1 true) = some true := by rw [if_neg (show ¬ (false = true) by decide)] at H; exact H
      clear H
      have H := H1
      clear H1
      have H' := Aside0.mk H
      clear H
      go_wp2_with (first | ((with_reducible refine gate_callee (f := 39) rfl ?_); refine goesL_ (some 8) rfl rfl Try.func39 (by kernel_rfl) rfl #[.slice A0 l0.length c0] rfl (by (try simp only [List.map_toArray, List.map_cons, List.map_nil]); first | done | rfl | (simp only [List.length_drop, List.length_take]; rfl)) ?_; (with_reducible refine (chicorylaw03_few.calls _ _ l0 false _ ?side1 ?side2 A4.out).mono ?_); (case side1 => repeat (first | exact (Kd.C_below HR0.out HB.out) | (with_reducible refine Kd.C_alloc ?_ _) | (with_reducible refine Kd.C_drewN ?_ _) | (with_reducible refine Kd.C_drew ?_))); (case side2 => exact HC0.out); rintro e w' ⟨rfl, ⟨nd, rfl⟩⟩; refine ⟨_, rfl, ?_⟩))
      go_meet
      case rel => exact ⟨_, (true), (by first | rfl | (simp; done) | (simp [*]; done)), H', ⟨by first | omega | exact Nat.le_refl _⟩, ⟨by repeat (first | (with_reducible first | exact HB.out | apply below_alloc | apply pw_below_drewN | apply below_drew1) | exact HB.out)⟩⟩
  case rest =>
    clear HC3
    try clear c1
    try clear p2
    try clear c3
    try clear c5
    try clear c6
    try clear c6b0
    try clear c7
    try clear c7b0
    try clear c8
    try clear c8b0
    try clear c9
    try clear c9b0
    obtain ⟨kq, x25_2, rfl, HA, HJ2, HB⟩ := hcut
    cases kq with
    | zero => exact absurd HA.out (by simp [chicorylaw03_NumberShifts.j0])
    | succ kj2 =>
      have H := HA.out
      clear HA
      simp only [chicorylaw03_NumberShifts.j0] at H
      by_cases c10 : x25_2 = true
      · subst c10
        have H1 : ((chicorylaw03_awake.f kj2).bind fun t492 => (some t492)) = some true := by rw [if_pos rfl] at H; exact H
        clear H
        have H := H1
        clear H1
        replace H := Option.bind_eq_some_iff.mp H
        obtain ⟨t492, A110, H⟩ := H
        replace H : (some t492) = some true := H
        have A11 := Aside0.mk A110
        clear A110
        obtain rfl := Option.some.inj H
        go_wp2_with (first | ((with_reducible refine gate_callee (f := 40) rfl ?_); refine goesL_ (some 26) rfl rfl Try.func40 (by kernel_rfl) rfl #[] rfl (by (try simp only [List.map_toArray, List.map_cons, List.map_nil]); first | done | rfl | (simp only [List.length_drop, List.length_take]; rfl)) ?_; (with_reducible refine (chicorylaw03_awake.calls kj2  true _ A11.out).mono ?_); rintro e w12 ⟨rfl, hb⟩; refine ⟨_, rfl, ?_⟩; have n0_ := Aside0.mk (below_step (by repeat (first | (with_reducible first | exact HB.out | apply below_alloc | apply pw_below_drewN | apply below_drew1) | exact HB.out)) hb); clear HB; have HB := n0_; clear n0_; (try clear hb); (try clear hb2); (try clear hk); (try clear hi)))
        go_ret
        exact ⟨by first | rfl | (simp [errW_none, errW_some] <;> rfl) | (simp [*, errW_none, errW_some] <;> rfl), by repeat (first | (with_reducible first | exact HB.out | apply below_alloc | apply pw_below_drewN | apply below_drew1) | exact HB.out)⟩
      · replace c10 := Bool.eq_false_iff.mpr c10
        subst c10
        have H1 : ((number_Shift.f kj2 l0 a1).bind fun bt493 => (if a1 < (-65536) then (chicorylaw03_NumberShifts.j1 kj2 l0 a1 bt493.1 bt493.2 true) else (chicorylaw03_NumberShifts.j1 kj2 l0 a1 bt493.1 bt493.2 (decide (a1 > 65536))))) = some true := by rw [if_neg (show ¬ (false = true) by decide)] at H; exact H
        clear H
        have H := H1
        clear H1
        replace H := Option.bind_eq_some_iff.mp H
        obtain ⟨⟨t493, t496⟩, A130, H⟩ := H
        replace H : (if a1 < (-65536) then (chicorylaw03_NumberShifts.j1 kj2 l0 a1 t493 t496 true) else (chicorylaw03_NumberShifts.j1 kj2 l0 a1 t493 t496 (decide (a1 > 65536)))) = some true := H
        have A13 := Aside0.mk A130
        clear A130
        have HC14 := Aside0.mk H
        clear H
        go_upto_region 4 with (first | ((with_reducible refine gate_callee (f := 57) rfl ?_); refine goesL_ (some 30) rfl rfl Try.func57 (by kernel_rfl) rfl #[.slice A0 l0.length c0, .int .i64 a1] rfl (by (try simp only [List.map_toArray, List.map_cons, List.map_nil]); first | done | rfl | (simp only [List.length_drop, List.length_take]; rfl)) ?_; (with_reducible refine (number_Shift.calls kj2 _ _ l0 a1 t493 t496 _ ?side1 ?side2 A13.out).mono ?_); (case side1 => repeat (first | exact (Kd.C_below HR0.out HB.out) | (with_reducible refine Kd.C_alloc ?_ _) | (with_reducible refine Kd.C_drewN ?_ _) | (with_reducible refine Kd.C_drew ?_))); (case side2 => exact HC0.out); rintro e w15 ⟨v494, rfl, ho0, hb⟩; refine ⟨_, rfl, ?_⟩; have n0_ := Aside0.mk (Kd.V_lower (Kd.V_mono (ok' := fun k_ => True) ho0 (fun k_ hk_ => trivial)) (below_size (by repeat (first | (with_reducible first | exact HB.out | apply below_alloc | apply pw_below_drewN | apply below_drew1) | exact HB.out)))); have n1_ := Aside0.mk (below_step (by repeat (first | (with_reducible first | exact HB.out | apply below_alloc | apply pw_below_drewN | apply below_drew1) | exact HB.out)) hb); clear HB; have HO495 := n0_; have HB := n1_; clear n0_ n1_; (try clear hb); (try clear hb2); (try clear hk); (try clear hi); (try clear ho0)))
        (try simp only [Act.put, List.setIfInBounds_toArray, List.set_cons_zero, List.set_cons_succ])
        go_cut [38] (fun v38 wc => ∃ (kq : Nat) (x38_13 : Bool), v38 = .bool x38_13 ∧ Aside0 (chicorylaw03_NumberShifts.j1 kq l0 a1 t493 t496 x38_13 = some true) ∧ Aside0 (kq ≤ kj2) ∧ Aside0 (Kd.V (Kd.int .u64) 62 wc w.heap.size (fun _ => True) v494 t493) ∧ Aside0 (Below w.heap.size w wc))
        case first =>
          have H := HC14.out
          clear HC14
          by_cases c16 : a1 < (-65536)
          · rw [if_pos c16] at H
            have c16b0 : decide (a1 < (-65536)) = true := decide_eq_true c16
            clear c16
            (first | rw [c16b0] | (simp only [i64_w, i32_w]; rw [c16b0]) | skip)
            have H' := Aside0.mk H
            clear H
            go_wp2
            go_meet
            case rel => exact ⟨_, (true), (by first | rfl | (simp; done) | (simp [*]; done)), H', ⟨by have := HJ2.out; first | omega | exact Nat.le_refl _⟩, ⟨by (with_reducible repeat (first | apply Kd.V_alloc | apply Kd.V_drewN | apply Kd.V_drew)); exact HO495.out⟩, ⟨by repeat (first | (with_reducible first | exact HB.out | apply below_alloc | apply pw_below_drewN | apply below_drew1) | exact HB.out)⟩⟩
          · rw [if_neg c16] at H
            have c16b0 : decide (a1 < (-65536)) = false := decide_eq_false c16
            clear c16
            (first | rw [c16b0] | (simp only [i64_w, i32_w]; rw [c16b0]) | skip)
            have H' := Aside0.mk H
            clear H
            go_wp2
            go_meet
            case rel => exact ⟨_, (decide (a1 > 65536)), (by first | rfl | (simp; done) | (simp [*]; done)), H', ⟨by have := HJ2.out; first | omega | exact Nat.le_refl _⟩, ⟨by (with_reducible repeat (first | apply Kd.V_alloc | apply Kd.V_drewN | apply Kd.V_drew)); exact HO495.out⟩, ⟨by repeat (first | (with_reducible first | exact HB.out | apply below_alloc | apply pw_below_drewN | apply below_drew1) | exact HB.out)⟩⟩
        case rest =>
          clear HC14
          try clear c1
          try clear p2
          try clear c3
          try clear c4
          try clear c5
          try clear c6
          try clear c6b0
          try clear c7
          try clear c7b0
          try clear c8
          try clear c8b0
          try clear c9
          try clear c9b0
          try clear c10
          try clear c11
          try clear c16
          try clear c16b0
          try clear p2
          obtain ⟨kq, x38_13, rfl, HA, HJ13, HO_5, HB⟩ := hcut
          cases kq with
          | zero => exact absurd HA.out (by simp [chicorylaw03_NumberShifts.j1])
          | succ kj13 =>
            have H := HA.out
            clear HA
            simp only [chicorylaw03_NumberShifts.j1] at H
            by_cases c17 : x38_13 = true
            · subst c17
              have H1 : (if (t493.length : Int) = 0 then (if t496 = 10 then ((chicorylaw03_awake.f kj13).bind fun t497 => (some t497)) else (some false)) else (some false)) = some true := by rw [if_pos rfl] at H; exact H
              clear H
              have H := H1
              clear H1
              by_cases c18 : (t493.length : Int) = 0
              · rw [if_pos c18] at H
                have c18b0 : ((t493.length : Int) == 0) = true := beq_iff_eq.mpr c18
                have c18b1 : ((t493.length : Int) != 0) = false := bne_eq_false_iff_eq.mpr c18
                clear c18
                by_cases c19 : t496 = 10
                · rw [if_pos c19] at H
                  have c19b0 : (t496 == 10) = true := beq_iff_eq.mpr c19
                  have c19b1 : (t496 != 10) = false := bne_eq_false_iff_eq.mpr c19
                  clear c19
                  replace H := Option.bind_eq_some_iff.mp H
                  obtain ⟨t497, A200, H⟩ := H
                  replace H : (some t497) = some true := H
                  have A20 := Aside0.mk A200
                  clear A200
                  obtain rfl := Option.some.inj H
                  obtain ⟨Ao21, co21, eo21⟩ := Kd.V_slice HO_5.out
                  subst eo21
                  go_wp2_with (first | (go_at_call 40; (with_reducible refine (chicorylaw03_awake.calls kj13  true _ A20.out).mono ?_); rintro e w22 ⟨rfl, hb⟩; have n0_ := Aside0.mk (Kd.V_below (by (with_reducible repeat (first | apply Kd.V_alloc | apply Kd.V_drewN | apply Kd.V_drew)); exact HO_5.out) hb); have n1_ := Aside0.mk (below_step (by repeat (first | (with_reducible first | exact HB.out | apply below_alloc | apply pw_below_drewN | apply below_drew1) | exact HB.out)) hb); clear HO_5; clear HB; have HO_5 := n0_; have HB := n1_; clear n0_ n1_; (try clear hb); (try clear hb2); (try clear hk); (try clear hi)))
                  go_ret
                  exact ⟨by first | rfl | (simp [errW_none, errW_some] <;> rfl) | (simp [*, errW_none, errW_some] <;> rfl), by repeat (first | (with_reducible first | exact HB.out | apply below_alloc | apply pw_below_drewN | apply below_drew1) | exact HB.out)⟩
                · rw [if_neg c19] at H
                  have c19b0 : (t496 == 10) = false := beq_eq_false_iff_ne.mpr c19
                  have c19b1 : (t496 != 10) = true := bne_iff_ne.mpr c19
                  exact absurd H (by simp)
              · rw [if_neg c18] at H
                have c18b0 : ((t493.length : Int) == 0) = false := beq_eq_false_iff_ne.mpr c18
                have c18b1 : ((t493.length : Int) != 0) = true := bne_iff_ne.mpr c18
                have c18b2 : ¬ (t493 = []) := fun h_ => c18 (by rw [h_]; rfl)
                exact absurd H (by simp)
            · replace c17 := Bool.eq_false_iff.mpr c17
              subst c17
              have H1 : ((chicoryref03_Bytes.f kj13 l0).bind fun t498 => ((chicoryref03_Shift.f kj13 t498 a1).bind fun t501 => ((chicorylaw03_is.f kj13 t493 t501).bind fun t504 => (if t504 = true then (if t496 = 0 then ((chicorylaw03_awake.f kj13).bind fun t505 => (some t505)) else (some false)) else (some false))))) = some true := by rw [if_neg (show ¬ (false = true) by decide)] at H; exact H
              clear H
              have H := H1
              clear H1
              replace H := Option.bind_eq_some_iff.mp H
              obtain ⟨t498, A250, H⟩ := H
              replace H : ((chicoryref03_Shift.f kj13 t498 a1).bind fun t501 => ((chicorylaw03_is.f kj13 t493 t501).bind fun t504 => (if t504 = true then (if t496 = 0 then ((chicorylaw03_awake.f kj13).bind fun t505 => (some t505)) else (some false)) else (some false)))) = some true := H
              have A25 := Aside0.mk A250
              clear A250
              replace H := Option.bind_eq_some_iff.mp H
              obtain ⟨t501, A260, H⟩ := H
              replace H : ((chicorylaw03_is.f kj13 t493 t501).bind fun t504 => (if t504 = true then (if t496 = 0 then ((chicorylaw03_awake.f kj13).bind fun t505 => (some t505)) else (some false)) else (some false))) = some true := H
              have A26 := Aside0.mk A260
              clear A260
              replace H := Option.bind_eq_some_iff.mp H
              obtain ⟨t504, A270, H⟩ := H
              replace H : (if t504 = true then (if t496 = 0 then ((chicorylaw03_awake.f kj13).bind fun t505 => (some t505)) else (some false)) else (some false)) = some true := H
              have A27 := Aside0.mk A270
              clear A270
              by_cases c28 : t504 = true
              · subst c28
                have H1 : (if t496 = 0 then ((chicorylaw03_awake.f kj13).bind fun t505 => (some t505)) else (some false)) = some true := by rw [if_pos rfl] at H; exact H
                clear H
                have H := H1
                clear H1
                by_cases c29 : t496 = 0
                · rw [if_pos c29] at H
                  have c29b0 : (t496 == 0) = true := beq_iff_eq.mpr c29
                  have c29b1 : (t496 != 0) = false := bne_eq_false_iff_eq.mpr c29
                  clear c29
                  replace H := Option.bind_eq_some_iff.mp H
                  obtain ⟨t505, A300, H⟩ := H
                  replace H : (some t505) = some true := H
                  have A30 := Aside0.mk A300
                  clear A300
                  obtain rfl := Option.some.inj H
                  go_wp2_with (first | ((with_reducible refine gate_callee (f := 41) rfl ?_); refine goesL_ (some 51) rfl rfl Try.func41 (by kernel_rfl) rfl #[.slice A0 l0.length c0] rfl (by (try simp only [List.map_toArray, List.map_cons, List.map_nil]); first | done | rfl | (simp only [List.length_drop, List.length_take]; rfl)) ?_; (with_reducible refine (chicoryref03_Bytes.calls kj13 _ _ l0 t498 _ ?side1 ?side2 A25.out).mono ?_); (case side1 => repeat (first | exact (Kd.C_below HR0.out HB.out) | (with_reducible refine Kd.C_alloc ?_ _) | (with_reducible refine Kd.C_drewN ?_ _) | (with_reducible refine Kd.C_drew ?_))); (case side2 => exact HC0.out); rintro e w31 ⟨v499, rfl, ho0, hb⟩; refine ⟨_, rfl, ?_⟩; have n0_ := Aside0.mk (Kd.V_elder' (by (with_reducible repeat (first | apply Kd.V_alloc | apply Kd.V_drewN | apply Kd.V_drew)); exact HO_5.out) (Kd.R_base ho0) hb); have n1_ := Aside0.mk (Kd.R_lower ho0 (below_size (by repeat (first | (with_reducible first | exact HB.out | apply below_alloc | apply pw_below_drewN | apply below_drew1) | exact HB.out)))); have n2_ := Aside0.mk (below_step (by repeat (first | (with_reducible first | exact HB.out | apply below_alloc | apply pw_below_drewN | apply below_drew1) | exact HB.out)) hb); clear HO_5; clear HB; have HO_5 := n0_; have HO500 := n1_; have HB := n2_; clear n0_ n1_ n2_; (try clear hb); (try clear hb2); (try clear hk); (try clear hi); (try clear ho0); obtain ⟨Ao32, co32, eo32⟩ := Kd.R_slice HO500.out; subst eo32) | ((with_reducible refine gate_callee (f := 58) rfl ?_); refine goesL_ (some 53) rfl rfl Try.func58 (by kernel_rfl) rfl #[.slice Ao32 t498.length co32, .int .i64 a1] rfl (by (try simp only [List.map_toArray, List.map_cons, List.map_nil]); first | done | rfl | (simp only [List.length_drop, List.length_take]; rfl)) ?_; (with_reducible refine (chicoryref03_Shift.calls kj13 _ _ t498 a1 t501 _ ?side1 ?side2 A26.out).mono ?_); (case side1 => repeat (first | exact (Kd.R_reads' HO500.out).2.2 | (with_reducible refine Kd.C_alloc ?_ _) | (with_reducible refine Kd.C_drewN ?_ _) | (with_reducible refine Kd.C_drew ?_))); (case side2 => exact (Kd.R_reads' HO500.out).2.1); rintro e w33 ⟨v502, rfl, ho0, hb⟩; refine ⟨_, rfl, ?_⟩; have n0_ := Aside0.mk (Kd.V_below (by (with_reducible repeat (first | apply Kd.V_alloc | apply Kd.V_drewN | apply Kd.V_drew)); exact HO_5.out) hb); have n1_ := Aside0.mk (Kd.R_below (by (with_reducible repeat (first | apply Kd.R_alloc | apply Kd.R_drewN | apply Kd.R_drew)); exact HO500.out) hb); have n2_ := Aside0.mk (Kd.V_lower (Kd.V_mono (ok' := fun k_ => some k_ ≠ (.slice Ao32 t498.length co32 : Value).ownBlock) ho0 (fun k_ hk_ => (Kd.fresh' (Kd.R_lt (by (with_reducible repeat (first | apply Kd.R_alloc | apply Kd.R_drewN | apply Kd.R_drew)); exact HO500.out)) k_ hk_))) (below_size (by repeat (first | (with_reducible first | exact HB.out | apply below_alloc | apply pw_below_drewN | apply below_drew1) | exact HB.out)))); have n3_ := Aside0.mk (below_step (by repeat (first | (with_reducible first | exact HB.out | apply below_alloc | apply pw_below_drewN | apply below_drew1) | exact HB.out)) hb); clear HO_5; clear HO500; clear HB; have HO_5 := n0_; have HO500 := n1_; have HO503 := n2_; have HB := n3_; clear n0_ n1_ n2_ n3_; (try clear hb); (try clear hb2); (try clear hk); (try clear hi); (try clear ho0); obtain ⟨Ao34, co34, eo34⟩ := Kd.V_slice HO_5.out; subst eo34; obtain ⟨Ao35, co35, eo35⟩ := Kd.V_slice HO503.out; subst eo35) | ((with_reducible refine gate_callee (f := 47) rfl ?_); refine goesL_ (some 54) rfl rfl Try.func47 (by kernel_rfl) rfl #[.slice Ao34 t493.length co34, .slice Ao35 t501.length co35] rfl (by (try simp only [List.map_toArray, List.map_cons, List.map_nil]); first | done | rfl | (simp only [List.length_drop, List.length_take]; rfl)) ?_; (with_reducible refine (chicorylaw03_is.calls kj13 _ _ t493 _ _ t501 true _ ?side1 ?side2 ?side3 ?side4 A27.out).mono ?_); (case side1 => repeat (first | exact (Kd.V_reads' HO_5.out).2.2 | (with_reducible refine Kd.C_alloc ?_ _) | (with_reducible refine Kd.C_drewN ?_ _) | (with_reducible refine Kd.C_drew ?_))); (case side2 => exact (Kd.V_reads' HO_5.out).2.1); (case side3 => repeat (first | exact (Kd.V_reads' HO503.out).2.2 | (with_reducible refine Kd.C_alloc ?_ _) | (with_reducible refine Kd.C_drewN ?_ _) | (with_reducible refine Kd.C_drew ?_))); (case side4 => exact (Kd.V_reads' HO503.out).2.1); rintro e w36 ⟨rfl, hb⟩; refine ⟨_, rfl, ?_⟩; have n0_ := Aside0.mk (Kd.V_below (by (with_reducible repeat (first | apply Kd.V_alloc | apply Kd.V_drewN | apply Kd.V_drew)); exact HO_5.out) hb); have n1_ := Aside0.mk (Kd.R_below (by (with_reducible repeat (first | apply Kd.R_alloc | apply Kd.R_drewN | apply Kd.R_drew)); exact HO500.out) hb); have n2_ := Aside0.mk (Kd.V_below (by (with_reducible repeat (first | apply Kd.V_alloc | apply Kd.V_drewN | apply Kd.V_drew)); exact HO503.out) hb); have n3_ := Aside0.mk (below_step (by repeat (first | (with_reducible first | exact HB.out | apply below_alloc | apply pw_below_drewN | apply below_drew1) | exact HB.out)) hb); clear HO_5; clear HO500; clear HO503; clear HB; have HO_5 := n0_; have HO500 := n1_; have HO503 := n2_; have HB := n3_; clear n0_ n1_ n2_ n3_; (try clear hb); (try clear hb2); (try clear hk); (try clear hi)) | (go_at_call 40; (with_reducible refine (chicorylaw03_awake.calls kj13  true _ A30.out).mono ?_); rintro e w37 ⟨rfl, hb⟩; have n0_ := Aside0.mk (Kd.V_below (by (with_reducible repeat (first | apply Kd.V_alloc | apply Kd.V_drewN | apply Kd.V_drew)); exact HO_5.out) hb); have n1_ := Aside0.mk (Kd.R_below (by (with_reducible repeat (first | apply Kd.R_alloc | apply Kd.R_drewN | apply Kd.R_drew)); exact HO500.out) hb); have n2_ := Aside0.mk (Kd.V_below (by (with_reducible repeat (first | apply Kd.V_alloc | apply Kd.V_drewN | apply Kd.V_drew)); exact HO503.out) hb); have n3_ := Aside0.mk (below_step (by repeat (first | (with_reducible first | exact HB.out | apply below_alloc | apply pw_below_drewN | apply below_drew1) | exact HB.out)) hb); clear HO_5; clear HO500; clear HO503; clear HB; have HO_5 := n0_; have HO500 := n1_; have HO503 := n2_; have HB := n3_; clear n0_ n1_ n2_ n3_; (try clear hb); (try clear hb2); (try clear hk); (try clear hi)))
                  go_ret
                  exact ⟨by first | rfl | (simp [errW_none, errW_some] <;> rfl) | (simp [*, errW_none, errW_some] <;> rfl), by repeat (first | (with_reducible first | exact HB.out | apply below_alloc | apply pw_below_drewN | apply below_drew1) | exact HB.out)⟩
                · rw [if_neg c29] at H
                  have c29b0 : (t496 == 0) = false := beq_eq_false_iff_ne.mpr c29
                  have c29b1 : (t496 != 0) = true := bne_iff_ne.mpr c29
                  exact absurd H (by simp)
              · replace c28 := Bool.eq_false_iff.mpr c28
                subst c28
                have H1 : (some false) = some true := by rw [if_neg (show ¬ (false = true) by decide)] at H; exact H
                clear H
                have H := H1
                clear H1
                exact absurd H (by simp)

/-- THE ONE PURE STATEMENT of chicorylaw03_NumberShifts: yours. -/
def chicorylaw03_NumberShifts.Pure : Prop := ∀ (l0 : List Int) (a1 : Int), l0.length ≤ maxLen → l0.length * 8 ≤ 140737488351232 → (∀ x ∈ l0, (Lit.int .u64 x).wf = true) → (Lit.int .i64 a1).wf = true → ∃ k, chicorylaw03_NumberShifts.f k l0 a1 = some true
theorem chicorylaw03_NumberShifts.walk (P : chicorylaw03_NumberShifts.Pure) (a0 : Option Addr) (len0 cap0 : Nat) (z0 : List Int) (a1 : Int) (w : World) (w0 : (a0 = none ∧ len0 = 0 ∧ cap0 = 0 ∧ z0 = []) ∨ ∃ x, a0 = some x ∧ len0 ≤ cap0 ∧ cap0 ≤ maxLen ∧ z0.length = cap0 ∧ (∀ i, i < z0.length → w.cell? (x.add i) = some (.int .u64 (z0.getD i 0))) ∧ ∀ n ∈ z0, (Lit.int .u64 n).wf = true) (y0 : len0 * 8 ≤ 140737488351232) (w1 : (Lit.int .i64 a1).wf = true) :
    Calls Try.prog 11 #[.slice a0 len0 cap0, .int .i64 a1] w fun e w' => e = .returned (.bool true) ∧ Below w.heap.size w w' := by
  obtain ⟨l0, rfl, hr0, hm0, hw0, hc0⟩ := ReadsInt.ofRowC w0
  obtain ⟨k, h⟩ := P l0 a1 hm0 y0 hw0 w1
  refine (chicorylaw03_NumberShifts.calls k _ _ l0 a1 w (Kd.C_of_reads (d := (0 : Int)) (h1 := fun _ => rfl) hr0) hc0 h).mono ?_
  rintro e w' ⟨rfl, hd⟩
  exact ⟨rfl, hd⟩

end Go.Proofs.Ytdaehflffecllaa.N
