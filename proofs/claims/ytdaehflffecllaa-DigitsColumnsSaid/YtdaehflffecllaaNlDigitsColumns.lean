-- Printed by a program of this session (wip/xprint.py, over the kit's print.py with this session's stand-ins for what that does not take); checked by Lean alone.
import Derived.Test.YtdaehflffecllaaNx0
import Derived.Test.YtdaehflffecllaaNx1
import Derived.Test.YtdaehflffecllaaNx12
import Derived.Test.YtdaehflffecllaaNx13
import Derived.Test.YtdaehflffecllaaNx15
namespace Go.Proofs.Ytdaehflffecllaa.N
open Go.RowKit Go.Proofs.YtdaehflffecllaaW.PrintWords Go.Proofs.YtdaehflffecllaaW.PrintLast Go.Proofs.YtdaehflffecllaaW.PrintMore
attribute [local go_sem] max2_int min2_int max_two min_two max_three min_three max_four min_four   -- for this text's walks alone
set_option linter.unusedVariables false
set_option linter.unusedSimpArgs false

/-! ### chicorylaw07_DigitsColumns: function 5 -/
mutual
def chicorylaw07_DigitsColumns.j0 : Nat → List Int → Int → Bool → Option (Bool)
  | 0, _, _, _ => none
  | k + 1, x0, x1, x21 => if x21 = true then ((chicorylaw07_awake.f k).bind fun t927 => (some t927)) else ((digits_Columns.f k x0 x1).bind fun bt928 => ((number_Of.f k x0).bind fun t932 => (if bt928.2 = 0 then (if (wrap64 ((bt928.1.length : Int) * x1)) < (wrap64 (8 * (x0.length : Int))) then (chicorylaw07_DigitsColumns.j1 k x1 bt928.1 t932 true) else (chicorylaw07_DigitsColumns.j1 k x1 bt928.1 t932 (decide ((wrap64 ((bt928.1.length : Int) * x1)) ≥ (wrap64 ((wrap64 (8 * (x0.length : Int))) + x1)))))) else (chicorylaw07_DigitsColumns.j1 k x1 bt928.1 t932 true))))
def chicorylaw07_DigitsColumns.j1 : Nat → Int → List Int → List Int → Bool → Option (Bool)
  | 0, _, _, _, _ => none
  | k + 1, x1, x5, x7, x54 => if x54 = true then (some false) else (chicorylaw07_DigitsColumns.l0 k x1 x5 x7 0)
def chicorylaw07_DigitsColumns.l0 : Nat → Int → List Int → List Int → Int → Option (Bool)
  | 0, _, _, _, _ => none
  | k + 1, x1, x5, x7, x8 => if x8 < (x5.length : Int) then (if 0 ≤ x8 then (if (rd x5 x8) < 0 then (some false) else (chicorylaw07_DigitsColumns.l1 k x1 x5 x7 x8 (rd x5 x8) 0)) else (none)) else ((chicorylaw07_awake.f k).bind fun t935 => (some t935))
def chicorylaw07_DigitsColumns.l1 : Nat → Int → List Int → List Int → Int → Int → Int → Option (Bool)
  | 0, _, _, _, _, _, _ => none
  | k + 1, x1, x5, x7, x8, x9, x10 => if x10 < x1 then ((number_Bit.f x7 (wrap64 ((wrap64 (x10 * (x5.length : Int))) + x8))).bind fun t937 => (if (Int.tmod x9 2) = t937 then (chicorylaw07_DigitsColumns.l1 k x1 x5 x7 x8 (wrap64 (Int.tdiv x9 2)) (wrap64 (x10 + 1))) else (some false))) else (if x9 = 0 then (chicorylaw07_DigitsColumns.l0 k x1 x5 x7 (wrap64 (x8 + 1))) else (some false))
end
def chicorylaw07_DigitsColumns.f (k : Nat) (l0 : List Int) (a1 : Int) : Option (Bool) := if (l0.length : Int) > 64 then (chicorylaw07_DigitsColumns.j0 k l0 a1 true) else (if a1 < 1 then (chicorylaw07_DigitsColumns.j0 k l0 a1 true) else (chicorylaw07_DigitsColumns.j0 k l0 a1 (decide (a1 > 8))))
theorem chicorylaw07_DigitsColumns.mono_l : ∀ k, (∀ y0 y1 y2, LeO (chicorylaw07_DigitsColumns.j0 k y0 y1 y2) (chicorylaw07_DigitsColumns.j0 (k + 1) y0 y1 y2)) ∧ (∀ y0 y1 y2 y3, LeO (chicorylaw07_DigitsColumns.j1 k y0 y1 y2 y3) (chicorylaw07_DigitsColumns.j1 (k + 1) y0 y1 y2 y3)) ∧ (∀ y0 y1 y2 y3, LeO (chicorylaw07_DigitsColumns.l0 k y0 y1 y2 y3) (chicorylaw07_DigitsColumns.l0 (k + 1) y0 y1 y2 y3)) ∧ (∀ y0 y1 y2 y3 y4 y5, LeO (chicorylaw07_DigitsColumns.l1 k y0 y1 y2 y3 y4 y5) (chicorylaw07_DigitsColumns.l1 (k + 1) y0 y1 y2 y3 y4 y5))
  | 0 => ⟨fun _ _ _ r h => by simp [chicorylaw07_DigitsColumns.j0] at h, fun _ _ _ _ r h => by simp [chicorylaw07_DigitsColumns.j1] at h, fun _ _ _ _ r h => by simp [chicorylaw07_DigitsColumns.l0] at h, fun _ _ _ _ _ _ r h => by simp [chicorylaw07_DigitsColumns.l1] at h⟩
  | k + 1 => by
    obtain ⟨ih0, ih1, ih2, ih3⟩ := chicorylaw07_DigitsColumns.mono_l k
    refine ⟨?_, ?_, ?_, ?_⟩
    · intro y0 y1 y2
      unfold chicorylaw07_DigitsColumns.j0
      repeat' first
      | (with_reducible exact ih0 _ _ _)
      | (with_reducible exact ih1 _ _ _ _)
      | (with_reducible exact ih2 _ _ _ _)
      | (with_reducible exact ih3 _ _ _ _ _ _)
      | (with_reducible exact chicorylaw07_awake.mono _)
      | (with_reducible exact digits_Columns.mono _ _ _)
      | (with_reducible exact number_Of.mono _ _)
      | (with_reducible exact LeO.refl _)
      | (with_reducible exact LeO.none _)
      | (with_reducible refine LeO.ite ?_ ?_)
      | (with_reducible refine LeO.bind ?_ (fun _ => ?_))
      | exact ih0 _ _ _
      | exact ih1 _ _ _ _
      | exact ih2 _ _ _ _
      | exact ih3 _ _ _ _ _ _
      | exact chicorylaw07_awake.mono _
      | exact digits_Columns.mono _ _ _
      | exact number_Of.mono _ _
      | exact LeO.none _
      | refine LeO.ite ?_ ?_
      | refine LeO.bind ?_ (fun _ => ?_)
    · intro y0 y1 y2 y3
      unfold chicorylaw07_DigitsColumns.j1
      repeat' first
      | (with_reducible exact ih0 _ _ _)
      | (with_reducible exact ih1 _ _ _ _)
      | (with_reducible exact ih2 _ _ _ _)
      | (with_reducible exact ih3 _ _ _ _ _ _)
      | (with_reducible exact chicorylaw07_awake.mono _)
      | (with_reducible exact digits_Columns.mono _ _ _)
      | (with_reducible exact number_Of.mono _ _)
      | (with_reducible exact LeO.refl _)
      | (with_reducible exact LeO.none _)
      | (with_reducible refine LeO.ite ?_ ?_)
      | (with_reducible refine LeO.bind ?_ (fun _ => ?_))
      | exact ih0 _ _ _
      | exact ih1 _ _ _ _
      | exact ih2 _ _ _ _
      | exact ih3 _ _ _ _ _ _
      | exact chicorylaw07_awake.mono _
      | exact digits_Columns.mono _ _ _
      | exact number_Of.mono _ _
      | exact LeO.none _
      | refine LeO.ite ?_ ?_
      | refine LeO.bind ?_ (fun _ => ?_)
    · intro y0 y1 y2 y3
      unfold chicorylaw07_DigitsColumns.l0
      repeat' first
      | (with_reducible exact ih0 _ _ _)
      | (with_reducible exact ih1 _ _ _ _)
      | (with_reducible exact ih2 _ _ _ _)
      | (with_reducible exact ih3 _ _ _ _ _ _)
      | (with_reducible exact chicorylaw07_awake.mono _)
      | (with_reducible exact digits_Columns.mono _ _ _)
      | (with_reducible exact number_Of.mono _ _)
      | (with_reducible exact LeO.refl _)
      | (with_reducible exact LeO.none _)
      | (with_reducible refine LeO.ite ?_ ?_)
      | (with_reducible refine LeO.bind ?_ (fun _ => ?_))
      | exact ih0 _ _ _
      | exact ih1 _ _ _ _
      | exact ih2 _ _ _ _
      | exact ih3 _ _ _ _ _ _
      | exact chicorylaw07_awake.mono _
      | exact digits_Columns.mono _ _ _
      | exact number_Of.mono _ _
      | exact LeO.none _
      | refine LeO.ite ?_ ?_
      | refine LeO.bind ?_ (fun _ => ?_)
    · intro y0 y1 y2 y3 y4 y5
      unfold chicorylaw07_DigitsColumns.l1
      repeat' first
      | (with_reducible exact ih0 _ _ _)
      | (with_reducible exact ih1 _ _ _ _)
      | (with_reducible exact ih2 _ _ _ _)
      | (with_reducible exact ih3 _ _ _ _ _ _)
      | (with_reducible exact chicorylaw07_awake.mono _)
      | (with_reducible exact digits_Columns.mono _ _ _)
      | (with_reducible exact number_Of.mono _ _)
      | (with_reducible exact LeO.refl _)
      | (with_reducible exact LeO.none _)
      | (with_reducible refine LeO.ite ?_ ?_)
      | (with_reducible refine LeO.bind ?_ (fun _ => ?_))
      | exact ih0 _ _ _
      | exact ih1 _ _ _ _
      | exact ih2 _ _ _ _
      | exact ih3 _ _ _ _ _ _
      | exact chicorylaw07_awake.mono _
      | exact digits_Columns.mono _ _ _
      | exact number_Of.mono _ _
      | exact LeO.none _
      | refine LeO.ite ?_ ?_
      | refine LeO.bind ?_ (fun _ => ?_)
theorem chicorylaw07_DigitsColumns.mono : ∀ a0 a1 k, LeO (chicorylaw07_DigitsColumns.f k a0 a1) (chicorylaw07_DigitsColumns.f (k + 1) a0 a1) := by
  intro a0 a1 k
  obtain ⟨ih0, ih1, ih2, ih3⟩ := chicorylaw07_DigitsColumns.mono_l k
  unfold chicorylaw07_DigitsColumns.f
  repeat' first
      | (with_reducible exact ih0 _ _ _)
      | (with_reducible exact ih1 _ _ _ _)
      | (with_reducible exact ih2 _ _ _ _)
      | (with_reducible exact ih3 _ _ _ _ _ _)
      | (with_reducible exact chicorylaw07_awake.mono _)
      | (with_reducible exact digits_Columns.mono _ _ _)
      | (with_reducible exact number_Of.mono _ _)
      | (with_reducible exact LeO.refl _)
      | (with_reducible exact LeO.none _)
      | (with_reducible refine LeO.ite ?_ ?_)
      | (with_reducible refine LeO.bind ?_ (fun _ => ?_))
      | exact ih0 _ _ _
      | exact ih1 _ _ _ _
      | exact ih2 _ _ _ _
      | exact ih3 _ _ _ _ _ _
      | exact chicorylaw07_awake.mono _
      | exact digits_Columns.mono _ _ _
      | exact number_Of.mono _ _
      | exact LeO.none _
      | refine LeO.ite ?_ ?_
      | refine LeO.bind ?_ (fun _ => ?_)
set_option maxHeartbeats 8000000 in
set_option maxRecDepth 100000 in
theorem chicorylaw07_DigitsColumns.calls (k : Nat) (A0 : Option Addr) (c0 : Nat) (l0 : List Int) (a1 : Int) (w : World) (hr0 : Kd.C (Kd.int .u8) w A0 l0.length l0) (hc0 : l0.length ≤ c0) (h : chicorylaw07_DigitsColumns.f k l0 a1 = some true) :
    Calls Try.prog 5 #[.slice A0 l0.length c0, .int .i64 a1] w fun e w' => e = .returned (.bool true) ∧ Below w.heap.size w w' := by
  have HR0 := Aside0.mk hr0
  have HC0 := Aside0.mk hc0
  clear hr0 hc0
  have HB := Aside0.mk (Below.refl w.heap.size w)
  have H : (if (l0.length : Int) > 64 then (chicorylaw07_DigitsColumns.j0 k l0 a1 true) else (if a1 < 1 then (chicorylaw07_DigitsColumns.j0 k l0 a1 true) else (chicorylaw07_DigitsColumns.j0 k l0 a1 (decide (a1 > 8))))) = some true := h
  clear h
  have HC3 := Aside0.mk H
  clear H
  go_enter Try.func5, Try.ntmps5
  go_upto_region 1 with (fail)
  go_cut [21] (fun v21 wc => ∃ (kq : Nat) (x21_2 : Bool), v21 = .bool x21_2 ∧ Aside0 (chicorylaw07_DigitsColumns.j0 kq l0 a1 x21_2 = some true) ∧ Aside0 (kq ≤ k) ∧ Aside0 (Below w.heap.size w wc))
  case first =>
    have H := HC3.out
    clear HC3
    by_cases c4 : (l0.length : Int) > 64
    · rw [if_pos c4] at H
      have c4b0 : decide (64 < (l0.length : Int)) = true := decide_eq_true c4
      have c4b1 : decide (64 < l0.length) = true := decide_eq_true (by omega)
      clear c4
      (first | rw [c4b0] | (simp only [i64_w, i32_w]; rw [c4b0]) | skip)
      have H' := Aside0.mk H
      clear H
      go_wp2
      go_meet
      case rel => exact ⟨_, (true), (by first | rfl | (simp; done) | (simp [*]; done)), H', ⟨by first | omega | exact Nat.le_refl _⟩, ⟨by repeat (first | (with_reducible first | exact HB.out | apply below_alloc | apply pw_below_drewN | apply below_drew1) | exact HB.out)⟩⟩
    · rw [if_neg c4] at H
      have c4b0 : decide (64 < (l0.length : Int)) = false := decide_eq_false c4
      have c4b1 : decide (64 < l0.length) = false := decide_eq_false (by omega)
      clear c4
      (first | rw [c4b0] | (simp only [i64_w, i32_w]; rw [c4b0]) | skip)
      by_cases c5 : a1 < 1
      · rw [if_pos c5] at H
        have c5b0 : decide (a1 < 1) = true := decide_eq_true c5
        clear c5
        have H' := Aside0.mk H
        clear H
        go_wp2
        go_meet
        case rel => exact ⟨_, (true), (by first | rfl | (simp; done) | (simp [*]; done)), H', ⟨by first | omega | exact Nat.le_refl _⟩, ⟨by repeat (first | (with_reducible first | exact HB.out | apply below_alloc | apply pw_below_drewN | apply below_drew1) | exact HB.out)⟩⟩
      · rw [if_neg c5] at H
        have c5b0 : decide (a1 < 1) = false := decide_eq_false c5
        clear c5
        have H' := Aside0.mk H
        clear H
        go_wp2
        go_meet
        case rel => exact ⟨_, (decide (a1 > 8)), (by first | rfl | (simp; done) | (simp [*]; done)), H', ⟨by first | omega | exact Nat.le_refl _⟩, ⟨by repeat (first | (with_reducible first | exact HB.out | apply below_alloc | apply pw_below_drewN | apply below_drew1) | exact HB.out)⟩⟩
  case rest =>
    clear HC3
    try clear p2
    try clear c4
    try clear c4b0
    try clear c4b1
    try clear c5
    try clear c5b0
    obtain ⟨kq, x21_2, rfl, HA, HJ2, HB⟩ := hcut
    cases kq with
    | zero => exact absurd HA.out (by simp [chicorylaw07_DigitsColumns.j0])
    | succ kj2 =>
      have H := HA.out
      clear HA
      simp only [chicorylaw07_DigitsColumns.j0] at H
      by_cases c6 : x21_2 = true
      · subst c6
        have H1 : ((chicorylaw07_awake.f kj2).bind fun t927 => (some t927)) = some true := by rw [if_pos rfl] at H; exact H
        clear H
        have H := H1
        clear H1
        replace H := Option.bind_eq_some_iff.mp H
        obtain ⟨t927, A70, H⟩ := H
        replace H : (some t927) = some true := H
        have A7 := Aside0.mk A70
        clear A70
        obtain rfl := Option.some.inj H
        go_wp2_with (first | ((with_reducible refine gate_callee (f := 24) rfl ?_); refine goesL_ (some 22) rfl rfl Try.func24 (by kernel_rfl) rfl #[] rfl (by (try simp only [List.map_toArray, List.map_cons, List.map_nil]); first | done | rfl | (simp only [List.length_drop, List.length_take]; rfl)) ?_; (with_reducible refine (chicorylaw07_awake.calls kj2  true _ A7.out).mono ?_); rintro e w8 ⟨rfl, hb⟩; refine ⟨_, rfl, ?_⟩; have n0_ := Aside0.mk (below_step (by repeat (first | (with_reducible first | exact HB.out | apply below_alloc | apply pw_below_drewN | apply below_drew1) | exact HB.out)) hb); clear HB; have HB := n0_; clear n0_; (try clear hb); (try clear hb2); (try clear hk); (try clear hi)))
        go_ret
        exact ⟨by first | rfl | (simp [errW_none, errW_some] <;> rfl) | (simp [*, errW_none, errW_some] <;> rfl), by repeat (first | (with_reducible first | exact HB.out | apply below_alloc | apply pw_below_drewN | apply below_drew1) | exact HB.out)⟩
      · replace c6 := Bool.eq_false_iff.mpr c6
        subst c6
        have H1 : ((digits_Columns.f kj2 l0 a1).bind fun bt928 => ((number_Of.f kj2 l0).bind fun t932 => (if bt928.2 = 0 then (if (wrap64 ((bt928.1.length : Int) * a1)) < (wrap64 (8 * (l0.length : Int))) then (chicorylaw07_DigitsColumns.j1 kj2 a1 bt928.1 t932 true) else (chicorylaw07_DigitsColumns.j1 kj2 a1 bt928.1 t932 (decide ((wrap64 ((bt928.1.length : Int) * a1)) ≥ (wrap64 ((wrap64 (8 * (l0.length : Int))) + a1)))))) else (chicorylaw07_DigitsColumns.j1 kj2 a1 bt928.1 t932 true)))) = some true := by rw [if_neg (show ¬ (false = true) by decide)] at H; exact H
        clear H
        have H := H1
        clear H1
        replace H := Option.bind_eq_some_iff.mp H
        obtain ⟨⟨t928, t929⟩, A90, H⟩ := H
        replace H : ((number_Of.f kj2 l0).bind fun t932 => (if t929 = 0 then (if (wrap64 ((t928.length : Int) * a1)) < (wrap64 (8 * (l0.length : Int))) then (chicorylaw07_DigitsColumns.j1 kj2 a1 t928 t932 true) else (chicorylaw07_DigitsColumns.j1 kj2 a1 t928 t932 (decide ((wrap64 ((t928.length : Int) * a1)) ≥ (wrap64 ((wrap64 (8 * (l0.length : Int))) + a1)))))) else (chicorylaw07_DigitsColumns.j1 kj2 a1 t928 t932 true))) = some true := H
        have A9 := Aside0.mk A90
        clear A90
        replace H := Option.bind_eq_some_iff.mp H
        obtain ⟨t932, A100, H⟩ := H
        replace H : (if t929 = 0 then (if (wrap64 ((t928.length : Int) * a1)) < (wrap64 (8 * (l0.length : Int))) then (chicorylaw07_DigitsColumns.j1 kj2 a1 t928 t932 true) else (chicorylaw07_DigitsColumns.j1 kj2 a1 t928 t932 (decide ((wrap64 ((t928.length : Int) * a1)) ≥ (wrap64 ((wrap64 (8 * (l0.length : Int))) + a1)))))) else (chicorylaw07_DigitsColumns.j1 kj2 a1 t928 t932 true)) = some true := H
        have A10 := Aside0.mk A100
        clear A100
        have HC11 := Aside0.mk H
        clear H
        go_upto_region 5 with (first | ((with_reducible refine gate_callee (f := 26) rfl ?_); refine goesL_ (some 26) rfl rfl Try.func26 (by kernel_rfl) rfl #[.slice A0 l0.length c0, .int .i64 a1] rfl (by (try simp only [List.map_toArray, List.map_cons, List.map_nil]); first | done | rfl | (simp only [List.length_drop, List.length_take]; rfl)) ?_; (with_reducible refine (digits_Columns.calls kj2 _ _ l0 a1 t928 t929 _ ?side1 ?side2 A9.out).mono ?_); (case side1 => repeat (first | exact (Kd.C_below HR0.out HB.out) | (with_reducible refine Kd.C_alloc ?_ _) | (with_reducible refine Kd.C_drewN ?_ _) | (with_reducible refine Kd.C_drew ?_))); (case side2 => exact HC0.out); rintro e w12 ⟨v930, rfl, ho0, hb⟩; refine ⟨_, rfl, ?_⟩; have n0_ := Aside0.mk (Kd.R_lower ho0 (below_size (by repeat (first | (with_reducible first | exact HB.out | apply below_alloc | apply pw_below_drewN | apply below_drew1) | exact HB.out)))); have n1_ := Aside0.mk (below_step (by repeat (first | (with_reducible first | exact HB.out | apply below_alloc | apply pw_below_drewN | apply below_drew1) | exact HB.out)) hb); clear HB; have HO931 := n0_; have HB := n1_; clear n0_ n1_; (try clear hb); (try clear hb2); (try clear hk); (try clear hi); (try clear ho0)) | ((with_reducible refine gate_callee (f := 36) rfl ?_); refine goesL_ (some 30) rfl rfl Try.func36 (by kernel_rfl) rfl #[.slice A0 l0.length c0] rfl (by (try simp only [List.map_toArray, List.map_cons, List.map_nil]); first | done | rfl | (simp only [List.length_drop, List.length_take]; rfl)) ?_; (with_reducible refine (number_Of.calls kj2 _ _ l0 t932 _ ?side1 ?side2 A10.out).mono ?_); (case side1 => repeat (first | exact (Kd.C_below HR0.out HB.out) | (with_reducible refine Kd.C_alloc ?_ _) | (with_reducible refine Kd.C_drewN ?_ _) | (with_reducible refine Kd.C_drew ?_))); (case side2 => exact HC0.out); rintro e w13 ⟨v933, rfl, ho0, hb⟩; refine ⟨_, rfl, ?_⟩; have n0_ := Aside0.mk (Kd.R_below (by (with_reducible repeat (first | apply Kd.R_alloc | apply Kd.R_drewN | apply Kd.R_drew)); exact HO931.out) hb); have n1_ := Aside0.mk (Kd.V_lower (Kd.V_mono (ok' := fun k_ => some k_ ≠ (v930 : Value).ownBlock) ho0 (fun k_ hk_ => (Kd.fresh' (Kd.R_lt (by (with_reducible repeat (first | apply Kd.R_alloc | apply Kd.R_drewN | apply Kd.R_drew)); exact HO931.out)) k_ hk_))) (below_size (by repeat (first | (with_reducible first | exact HB.out | apply below_alloc | apply pw_below_drewN | apply below_drew1) | exact HB.out)))); have n2_ := Aside0.mk (below_step (by repeat (first | (with_reducible first | exact HB.out | apply below_alloc | apply pw_below_drewN | apply below_drew1) | exact HB.out)) hb); clear HO931; clear HB; have HO931 := n0_; have HO934 := n1_; have HB := n2_; clear n0_ n1_ n2_; (try clear hb); (try clear hb2); (try clear hk); (try clear hi); (try clear ho0)))
        (try simp only [Act.put, List.setIfInBounds_toArray, List.set_cons_zero, List.set_cons_succ])
        go_cut [54] (fun v54 wc => ∃ (kq : Nat) (x54_10 : Bool), v54 = .bool x54_10 ∧ Aside0 (chicorylaw07_DigitsColumns.j1 kq a1 t928 t932 x54_10 = some true) ∧ Aside0 (kq ≤ kj2) ∧ Aside0 (Kd.R (Kd.int .i64) 3 wc w.heap.size (fun _ => True) v930 t928) ∧ Aside0 (Kd.V (Kd.int .u64) 62 wc w.heap.size (fun k_ => some k_ ≠ (v930 : Value).ownBlock) v933 t932) ∧ Aside0 (Below w.heap.size w wc))
        case first =>
          have H := HC11.out
          clear HC11
          by_cases c14 : t929 = 0
          · rw [if_pos c14] at H
            have c14b0 : (t929 == 0) = true := beq_iff_eq.mpr c14
            have c14b1 : (t929 != 0) = false := bne_eq_false_iff_eq.mpr c14
            clear c14
            (first | rw [c14b0] | (simp only [i64_w, i32_w]; rw [c14b0]) | skip)
            by_cases c15 : (wrap64 ((t928.length : Int) * a1)) < (wrap64 (8 * (l0.length : Int)))
            · rw [if_pos c15] at H
              have c15b0 : decide ((wrap64 ((t928.length : Int) * a1)) < (wrap64 (8 * (l0.length : Int)))) = true := decide_eq_true c15
              clear c15
              have H' := Aside0.mk H
              clear H
              obtain ⟨Ao16, co16, eo16⟩ := Kd.R_slice HO931.out
              subst eo16
              go_wp2
              go_meet
              case rel => exact ⟨_, (true), (by first | rfl | (simp; done) | (simp [*]; done)), H', ⟨by have := HJ2.out; first | omega | exact Nat.le_refl _⟩, ⟨by (with_reducible repeat (first | apply Kd.R_alloc | apply Kd.R_drewN | apply Kd.R_drew)); exact HO931.out⟩, ⟨by (with_reducible repeat (first | apply Kd.V_alloc | apply Kd.V_drewN | apply Kd.V_drew)); exact HO934.out⟩, ⟨by repeat (first | (with_reducible first | exact HB.out | apply below_alloc | apply pw_below_drewN | apply below_drew1) | exact HB.out)⟩⟩
            · rw [if_neg c15] at H
              have c15b0 : decide ((wrap64 ((t928.length : Int) * a1)) < (wrap64 (8 * (l0.length : Int)))) = false := decide_eq_false c15
              clear c15
              have H' := Aside0.mk H
              clear H
              obtain ⟨Ao17, co17, eo17⟩ := Kd.R_slice HO931.out
              subst eo17
              go_wp2
              go_meet
              case rel => exact ⟨_, (decide ((wrap64 ((t928.length : Int) * a1)) ≥ (wrap64 ((wrap64 (8 * (l0.length : Int))) + a1)))), (by first | rfl | (simp; done) | (simp [*]; done)), H', ⟨by have := HJ2.out; first | omega | exact Nat.le_refl _⟩, ⟨by (with_reducible repeat (first | apply Kd.R_alloc | apply Kd.R_drewN | apply Kd.R_drew)); exact HO931.out⟩, ⟨by (with_reducible repeat (first | apply Kd.V_alloc | apply Kd.V_drewN | apply Kd.V_drew)); exact HO934.out⟩, ⟨by repeat (first | (with_reducible first | exact HB.out | apply below_alloc | apply pw_below_drewN | apply below_drew1) | exact HB.out)⟩⟩
          · rw [if_neg c14] at H
            have c14b0 : (t929 == 0) = false := beq_eq_false_iff_ne.mpr c14
            have c14b1 : (t929 != 0) = true := bne_iff_ne.mpr c14
            (first | rw [c14b0] | (simp only [i64_w, i32_w]; rw [c14b0]) | skip)
            have H' := Aside0.mk H
            clear H
            go_wp2
            go_meet
            case rel => exact ⟨_, (true), (by first | rfl | (simp; done) | (simp [*]; done)), H', ⟨by have := HJ2.out; first | omega | exact Nat.le_refl _⟩, ⟨by (with_reducible repeat (first | apply Kd.R_alloc | apply Kd.R_drewN | apply Kd.R_drew)); exact HO931.out⟩, ⟨by (with_reducible repeat (first | apply Kd.V_alloc | apply Kd.V_drewN | apply Kd.V_drew)); exact HO934.out⟩, ⟨by repeat (first | (with_reducible first | exact HB.out | apply below_alloc | apply pw_below_drewN | apply below_drew1) | exact HB.out)⟩⟩
        case rest =>
          clear HC11
          try clear c1
          try clear c2
          try clear p2
          try clear c3
          try clear c4
          try clear c4b0
          try clear c4b1
          try clear c5
          try clear c5b0
          try clear c6
          try clear p6
          try clear c14
          try clear c14b0
          try clear c14b1
          try clear c15
          try clear c15b0
          try clear p2
          obtain ⟨kq, x54_10, rfl, HA, HJ10, HO_5, HO_7, HB⟩ := hcut
          cases kq with
          | zero => exact absurd HA.out (by simp [chicorylaw07_DigitsColumns.j1])
          | succ kj10 =>
            have H := HA.out
            clear HA
            simp only [chicorylaw07_DigitsColumns.j1] at H
            by_cases c18 : x54_10 = true
            · subst c18
              have H1 : (some false) = some true := by rw [if_pos rfl] at H; exact H
              clear H
              have H := H1
              clear H1
              exact absurd H (by simp)
            · replace c18 := Bool.eq_false_iff.mpr c18
              subst c18
              have H1 : (chicorylaw07_DigitsColumns.l0 kj10 a1 t928 t932 0) = some true := by rw [if_neg (show ¬ (false = true) by decide)] at H; exact H
              clear H
              have H := H1
              clear H1
              have H' := Aside0.mk H
              clear H
              go_wp2
              go_loopg [8] kj10 (fun kq v8 w' => ∃ (x8_3 : Int), v8 = .int .i64 x8_3 ∧ Aside0 (chicorylaw07_DigitsColumns.l0 kq a1 t928 t932 x8_3 = some true) ∧ Aside0 (kq ≤ kj10) ∧ Aside0 (Kd.R (Kd.int .i64) 3 w' w.heap.size (fun _ => True) v930 t928) ∧ Aside0 (Kd.V (Kd.int .u64) 62 w' w.heap.size (fun k_ => some k_ ≠ (v930 : Value).ownBlock) v933 t932) ∧ Aside0 (Below w.heap.size w w'))
              case atStart => exact ⟨(0), (by first | rfl | (simp; done) | (simp [*]; done)), H', ⟨Nat.le_refl _⟩, ⟨by (with_reducible repeat (first | apply Kd.R_alloc | apply Kd.R_drewN | apply Kd.R_drew)); exact HO_5.out⟩, ⟨by (with_reducible repeat (first | apply Kd.V_alloc | apply Kd.V_drewN | apply Kd.V_drew)); exact HO_7.out⟩, ⟨by repeat (first | (with_reducible first | exact HB.out | apply below_alloc | apply pw_below_drewN | apply below_drew1) | exact HB.out)⟩⟩
              case round =>
                clear H'
                try clear c1
                try clear c2
                try clear p2
                try clear c3
                try clear c4
                try clear c4b0
                try clear c4b1
                try clear c5
                try clear c5b0
                try clear c6
                try clear p6
                try clear c14
                try clear c14b0
                try clear c14b1
                try clear c15
                try clear c15b0
                try clear c18
                try clear p2
                try clear p6
                obtain ⟨x8_3, rfl, HA, HK3, HO_5, HO_7, HB⟩ := hrel
                cases gk with
                | zero => exact absurd HA.out (by simp [chicorylaw07_DigitsColumns.l0])
                | succ k3 =>
                  have H := HA.out
                  clear HA
                  simp only [chicorylaw07_DigitsColumns.l0] at H
                  by_cases c19 : x8_3 < (t928.length : Int)
                  · rw [if_pos c19] at H
                    have c19b0 : decide (x8_3 < (t928.length : Int)) = true := decide_eq_true c19
                    clear c19
                    by_cases c20 : 0 ≤ x8_3
                    · rw [if_pos c20] at H
                      have c20b0 : decide (0 ≤ x8_3) = true := decide_eq_true c20
                      clear c20
                      by_cases c21 : (rd t928 x8_3) < 0
                      · rw [if_pos c21] at H
                        have c21b0 : decide ((rd t928 x8_3) < 0) = true := decide_eq_true c21
                        clear c21
                        exact absurd H (by simp)
                      · rw [if_neg c21] at H
                        have c21b0 : decide ((rd t928 x8_3) < 0) = false := decide_eq_false c21
                        clear c21
                        have H' := Aside0.mk H
                        clear H
                        obtain ⟨Ao23, co23, eo23⟩ := Kd.R_slice HO_5.out
                        subst eo23
                        have p936 : 0 ≤ (x8_3 : Int) := of_decide_eq_true (by first | (with_reducible assumption) | assumption)
                        have q936 : x8_3 < (t928.length : Int) := of_decide_eq_true (by first | (with_reducible assumption) | assumption)
                        obtain ⟨ad936, e936, hx936_0⟩ := Kd.at_int (Kd.R_reads' HO_5.out).2.2 x8_3 p936 q936
                        cases e936
                        replace p936 := eq_true p936
                        replace q936 := eq_true q936
                        go_wp2
                        go_loopg [9, 10] k3 (fun kq v9 v10 w' => ∃ (x9_4 : Int) (x10_4 : Int), v9 = .int .i64 x9_4 ∧ v10 = .int .i64 x10_4 ∧ Aside0 (chicorylaw07_DigitsColumns.l1 kq a1 t928 t932 x8_3 x9_4 x10_4 = some true) ∧ Aside0 (kq ≤ k3) ∧ Aside0 (Kd.R (Kd.int .i64) 3 w' w.heap.size (fun _ => True) (.slice (some ad936) t928.length co23) t928) ∧ Aside0 (Kd.V (Kd.int .u64) 62 w' w.heap.size (fun k_ => some k_ ≠ ((.slice (some ad936) t928.length co23) : Value).ownBlock) v933 t932) ∧ Aside0 (Below w.heap.size w w'))
                        case atStart => exact ⟨(rd t928 x8_3), (0), (by first | rfl | (simp; done) | (simp [*]; done)), (by first | rfl | (simp; done) | (simp [*]; done)), H', ⟨Nat.le_refl _⟩, ⟨by (with_reducible repeat (first | apply Kd.R_alloc | apply Kd.R_drewN | apply Kd.R_drew)); exact HO_5.out⟩, ⟨by (with_reducible repeat (first | apply Kd.V_alloc | apply Kd.V_drewN | apply Kd.V_drew)); exact HO_7.out⟩, ⟨by repeat (first | (with_reducible first | exact HB.out | apply below_alloc | apply pw_below_drewN | apply below_drew1) | exact HB.out)⟩⟩
                        case round =>
                          clear H'
                          try clear c1
                          try clear c2
                          try clear p2
                          try clear c3
                          try clear c4
                          try clear c4b0
                          try clear c4b1
                          try clear c5
                          try clear c5b0
                          try clear c6
                          try clear p6
                          try clear p9
                          try clear q9
                          try clear hx9
                          try clear c14
                          try clear c14b0
                          try clear c14b1
                          try clear c15
                          try clear c15b0
                          try clear c18
                          try clear c19
                          try clear c19b0
                          try clear c20
                          try clear c20b0
                          try clear c21
                          try clear c21b0
                          try clear hx936_0
                          try clear p2
                          try clear p6
                          try clear p936
                          try clear q936
                          obtain ⟨x9_4, x10_4, rfl, rfl, HA, HK4, HO_5, HO_7, HB⟩ := hrel
                          cases gk with
                          | zero => exact absurd HA.out (by simp [chicorylaw07_DigitsColumns.l1])
                          | succ k4 =>
                            have H := HA.out
                            clear HA
                            simp only [chicorylaw07_DigitsColumns.l1] at H
                            by_cases c24 : x10_4 < a1
                            · rw [if_pos c24] at H
                              have c24b0 : decide (x10_4 < a1) = true := decide_eq_true c24
                              clear c24
                              replace H := Option.bind_eq_some_iff.mp H
                              obtain ⟨t937, A250, H⟩ := H
                              replace H : (if (Int.tmod x9_4 2) = t937 then (chicorylaw07_DigitsColumns.l1 k4 a1 t928 t932 x8_3 (wrap64 (Int.tdiv x9_4 2)) (wrap64 (x10_4 + 1))) else (some false)) = some true := H
                              have A25 := Aside0.mk A250
                              clear A250
                              by_cases c26 : (Int.tmod x9_4 2) = t937
                              · rw [if_pos c26] at H
                                have c26b0 : ((Int.tmod x9_4 2) == t937) = true := beq_iff_eq.mpr c26
                                have c26b1 : ((Int.tmod x9_4 2) != t937) = false := bne_eq_false_iff_eq.mpr c26
                                clear c26
                                have H' := Aside0.mk H
                                clear H
                                obtain ⟨Ao27, co27, eo27⟩ := Kd.V_slice HO_7.out
                                subst eo27
                                go_wp2_with (first | ((with_reducible refine gate_callee (f := 37) rfl ?_); refine goesL_ (some 81) rfl rfl Try.func37 (by kernel_rfl) rfl #[.slice Ao27 t932.length co27, .int .i64 (wrap64 ((wrap64 (x10_4 * (t928.length : Int))) + x8_3))] rfl (by (try simp only [List.map_toArray, List.map_cons, List.map_nil]); first | done | rfl | (simp only [List.length_drop, List.length_take]; rfl)) ?_; (with_reducible refine (number_Bit.calls _ _ t932 (wrap64 ((wrap64 (x10_4 * (t928.length : Int))) + x8_3)) t937 _ ?side1 ?side2 A25.out).mono ?_); (case side1 => repeat (first | exact (Kd.V_reads' HO_7.out).2.2 | (with_reducible refine Kd.C_alloc ?_ _) | (with_reducible refine Kd.C_drewN ?_ _) | (with_reducible refine Kd.C_drew ?_))); (case side2 => exact (Kd.V_reads' HO_7.out).2.1); rintro e w' ⟨rfl, ⟨nd, rfl⟩⟩; refine ⟨_, rfl, ?_⟩))
                                go_roundg k4
                                case measure => have := HJ2.out; have := HJ10.out; have := HK3.out; have := HK4.out; omega
                                case rel => exact ⟨(wrap64 (Int.tdiv x9_4 2)), (wrap64 (x10_4 + 1)), (by first | rfl | (simp; done) | (simp [*]; done)), (by first | rfl | (simp; done) | (simp [*]; done)), H', ⟨by have := HJ2.out; have := HJ10.out; have := HK3.out; have := HK4.out; omega⟩, ⟨by (with_reducible repeat (first | apply Kd.R_alloc | apply Kd.R_drewN | apply Kd.R_drew)); exact HO_5.out⟩, ⟨by (with_reducible repeat (first | apply Kd.V_alloc | apply Kd.V_drewN | apply Kd.V_drew)); exact HO_7.out⟩, ⟨by repeat (first | (with_reducible first | exact HB.out | apply below_alloc | apply pw_below_drewN | apply below_drew1) | exact HB.out)⟩⟩
                              · rw [if_neg c26] at H
                                have c26b0 : ((Int.tmod x9_4 2) == t937) = false := beq_eq_false_iff_ne.mpr c26
                                have c26b1 : ((Int.tmod x9_4 2) != t937) = true := bne_iff_ne.mpr c26
                                exact absurd H (by simp)
                            · rw [if_neg c24] at H
                              have c24b0 : decide (x10_4 < a1) = false := decide_eq_false c24
                              clear c24
                              by_cases c29 : x9_4 = 0
                              · rw [if_pos c29] at H
                                have c29b0 : (x9_4 == 0) = true := beq_iff_eq.mpr c29
                                have c29b1 : (x9_4 != 0) = false := bne_eq_false_iff_eq.mpr c29
                                clear c29
                                have H' := Aside0.mk H
                                clear H
                                go_wp2
                                go_roundg k4
                                case measure => have := HJ2.out; have := HJ10.out; have := HK3.out; have := HK4.out; omega
                                case rel => exact ⟨(wrap64 (x8_3 + 1)), (by first | rfl | (simp; done) | (simp [*]; done)), H', ⟨by have := HJ2.out; have := HJ10.out; have := HK3.out; have := HK4.out; omega⟩, ⟨by (with_reducible repeat (first | apply Kd.R_alloc | apply Kd.R_drewN | apply Kd.R_drew)); exact HO_5.out⟩, ⟨by (with_reducible repeat (first | apply Kd.V_alloc | apply Kd.V_drewN | apply Kd.V_drew)); exact HO_7.out⟩, ⟨by repeat (first | (with_reducible first | exact HB.out | apply below_alloc | apply pw_below_drewN | apply below_drew1) | exact HB.out)⟩⟩
                              · rw [if_neg c29] at H
                                have c29b0 : (x9_4 == 0) = false := beq_eq_false_iff_ne.mpr c29
                                have c29b1 : (x9_4 != 0) = true := bne_iff_ne.mpr c29
                                exact absurd H (by simp)
                    · rw [if_neg c20] at H
                      exact absurd H (by simp)
                  · rw [if_neg c19] at H
                    have c19b0 : decide (x8_3 < (t928.length : Int)) = false := decide_eq_false c19
                    clear c19
                    replace H := Option.bind_eq_some_iff.mp H
                    obtain ⟨t935, A300, H⟩ := H
                    replace H : (some t935) = some true := H
                    have A30 := Aside0.mk A300
                    clear A300
                    obtain rfl := Option.some.inj H
                    obtain ⟨Ao31, co31, eo31⟩ := Kd.R_slice HO_5.out
                    subst eo31
                    go_wp2_with (first | ((with_reducible refine gate_callee (f := 24) rfl ?_); refine goesL_ (some 87) rfl rfl Try.func24 (by kernel_rfl) rfl #[] rfl (by (try simp only [List.map_toArray, List.map_cons, List.map_nil]); first | done | rfl | (simp only [List.length_drop, List.length_take]; rfl)) ?_; (with_reducible refine (chicorylaw07_awake.calls k3  true _ A30.out).mono ?_); rintro e w32 ⟨rfl, hb⟩; refine ⟨_, rfl, ?_⟩; have n0_ := Aside0.mk (Kd.R_below (by (with_reducible repeat (first | apply Kd.R_alloc | apply Kd.R_drewN | apply Kd.R_drew)); exact HO_5.out) hb); have n1_ := Aside0.mk (Kd.V_below (by (with_reducible repeat (first | apply Kd.V_alloc | apply Kd.V_drewN | apply Kd.V_drew)); exact HO_7.out) hb); have n2_ := Aside0.mk (below_step (by repeat (first | (with_reducible first | exact HB.out | apply below_alloc | apply pw_below_drewN | apply below_drew1) | exact HB.out)) hb); clear HO_5; clear HO_7; clear HB; have HO_5 := n0_; have HO_7 := n1_; have HB := n2_; clear n0_ n1_ n2_; (try clear hb); (try clear hb2); (try clear hk); (try clear hi)))
                    go_ret
                    exact ⟨by first | rfl | (simp [errW_none, errW_some] <;> rfl) | (simp [*, errW_none, errW_some] <;> rfl), by repeat (first | (with_reducible first | exact HB.out | apply below_alloc | apply pw_below_drewN | apply below_drew1) | exact HB.out)⟩

/-- THE ONE PURE STATEMENT of chicorylaw07_DigitsColumns: yours. -/
def chicorylaw07_DigitsColumns.Pure : Prop := ∀ (l0 : List Int) (a1 : Int), l0.length ≤ maxLen → l0.length * 1 ≤ 140737488351232 → (∀ x ∈ l0, (Lit.int .u8 x).wf = true) → (Lit.int .i64 a1).wf = true → ∃ k, chicorylaw07_DigitsColumns.f k l0 a1 = some true
theorem chicorylaw07_DigitsColumns.walk (P : chicorylaw07_DigitsColumns.Pure) (a0 : Option Addr) (len0 cap0 : Nat) (z0 : List Int) (a1 : Int) (w : World) (w0 : (a0 = none ∧ len0 = 0 ∧ cap0 = 0 ∧ z0 = []) ∨ ∃ x, a0 = some x ∧ len0 ≤ cap0 ∧ cap0 ≤ maxLen ∧ z0.length = cap0 ∧ (∀ i, i < z0.length → w.cell? (x.add i) = some (.int .u8 (z0.getD i 0))) ∧ ∀ n ∈ z0, (Lit.int .u8 n).wf = true) (y0 : len0 * 1 ≤ 140737488351232) (w1 : (Lit.int .i64 a1).wf = true) :
    Calls Try.prog 5 #[.slice a0 len0 cap0, .int .i64 a1] w fun e w' => e = .returned (.bool true) ∧ Below w.heap.size w w' := by
  obtain ⟨l0, rfl, hr0, hm0, hw0, hc0⟩ := ReadsInt.ofRowC w0
  obtain ⟨k, h⟩ := P l0 a1 hm0 y0 hw0 w1
  refine (chicorylaw07_DigitsColumns.calls k _ _ l0 a1 w (Kd.C_of_reads (d := (0 : Int)) (h1 := fun _ => rfl) hr0) hc0 h).mono ?_
  rintro e w' ⟨rfl, hd⟩
  exact ⟨rfl, hd⟩

end Go.Proofs.Ytdaehflffecllaa.N
