-- Printed by a program of this session (wip/xprint.py, over the kit's print.py with this session's stand-ins for what that does not take); checked by Lean alone.
import Derived.Test.YtdaehflffecllaaNx0
import Derived.Test.YtdaehflffecllaaNx1
import Derived.Test.YtdaehflffecllaaNx3
import Derived.Test.YtdaehflffecllaaNx4
import Derived.Test.YtdaehflffecllaaNx6
namespace Go.Proofs.Ytdaehflffecllaa.N
open Go.RowKit Go.Proofs.YtdaehflffecllaaW.PrintWords Go.Proofs.YtdaehflffecllaaW.PrintLast Go.Proofs.YtdaehflffecllaaW.PrintMore
attribute [local go_sem] max2_int min2_int max_two min_two max_three min_three max_four min_four   -- for this text's walks alone
set_option linter.unusedVariables false
set_option linter.unusedSimpArgs false

/-! ### chicorylaw03_NumberBytes: function 16 -/
mutual
def chicorylaw03_NumberBytes.j0 : Nat → List Int → List Int → Int → Bool → Option (Bool)
  | 0, _, _, _, _ => none
  | k + 1, x0, x1, x2, x28 => if x28 = true then ((chicorylaw03_awake.f k).bind fun t681 => (some t681)) else ((number_Of.f k x0).bind fun t682 => ((number_Bytes.f k t682 (x0.length : Int)).bind fun bt685 => ((chicorylaw03_is.f k t682 x0).bind fun t689 => (if t689 = true then ((chicorylaw01_Bytes.f k bt685.1 x0).bind fun t690 => (if t690 = true then (chicorylaw03_NumberBytes.j1 k x1 x2 (bt685.2 != 0)) else (chicorylaw03_NumberBytes.j1 k x1 x2 true))) else (chicorylaw03_NumberBytes.j1 k x1 x2 true)))))
def chicorylaw03_NumberBytes.j1 : Nat → List Int → Int → Bool → Option (Bool)
  | 0, _, _, _ => none
  | k + 1, x1, x2, x52 => if x52 = true then (some false) else ((number_Bytes.f k x1 x2).bind fun bt691 => (if x2 < 0 then (chicorylaw03_NumberBytes.j2 k x1 x2 bt691.1 bt691.2 true) else (chicorylaw03_NumberBytes.j2 k x1 x2 bt691.1 bt691.2 (decide (x2 > 65536)))))
def chicorylaw03_NumberBytes.j2 : Nat → List Int → Int → List Int → Int → Bool → Option (Bool)
  | 0, _, _, _, _, _ => none
  | k + 1, x1, x2, x10, x11, x64 => if x64 = true then (if (x10.length : Int) = 0 then (if x11 = 10 then ((chicorylaw03_awake.f k).bind fun t695 => (some t695)) else (some false)) else (some false)) else ((chicoryref03_Bytes.f k x1).bind fun t696 => (if (t696.length : Int) > x2 then (if (x10.length : Int) = 0 then (if x11 = 11 then ((chicorylaw03_awake.f k).bind fun t699 => (some t699)) else (some false)) else (some false)) else (chicorylaw03_NumberBytes.l0 k x2 x10 x11 t696)))
def chicorylaw03_NumberBytes.l0 : Nat → Int → List Int → Int → List Int → Option (Bool)
  | 0, _, _, _, _ => none
  | k + 1, x2, x10, x11, x12 => if (x12.length : Int) < x2 then (if x12.length < 140737488355328 then (chicorylaw03_NumberBytes.l0 k x2 x10 x11 (x12 ++ [0])) else (none)) else ((chicorylaw01_Bytes.f k x10 x12).bind fun t703 => (if t703 = true then (if x11 = 0 then ((chicorylaw03_awake.f k).bind fun t704 => (some t704)) else (some false)) else (some false)))
end
def chicorylaw03_NumberBytes.f (k : Nat) (l0 : List Int) (l1 : List Int) (a2 : Int) : Option (Bool) := if (l0.length : Int) > 200 then (chicorylaw03_NumberBytes.j0 k l0 l1 a2 true) else ((chicorylaw03_few.f l1).bind fun t680 => (if t680 = true then (if a2 > 300 then (chicorylaw03_NumberBytes.j0 k l0 l1 a2 (decide (a2 ≤ 65536))) else (chicorylaw03_NumberBytes.j0 k l0 l1 a2 false)) else (chicorylaw03_NumberBytes.j0 k l0 l1 a2 true)))
theorem chicorylaw03_NumberBytes.mono_l : ∀ k, (∀ y0 y1 y2 y3, LeO (chicorylaw03_NumberBytes.j0 k y0 y1 y2 y3) (chicorylaw03_NumberBytes.j0 (k + 1) y0 y1 y2 y3)) ∧ (∀ y0 y1 y2, LeO (chicorylaw03_NumberBytes.j1 k y0 y1 y2) (chicorylaw03_NumberBytes.j1 (k + 1) y0 y1 y2)) ∧ (∀ y0 y1 y2 y3 y4, LeO (chicorylaw03_NumberBytes.j2 k y0 y1 y2 y3 y4) (chicorylaw03_NumberBytes.j2 (k + 1) y0 y1 y2 y3 y4)) ∧ (∀ y0 y1 y2 y3, LeO (chicorylaw03_NumberBytes.l0 k y0 y1 y2 y3) (chicorylaw03_NumberBytes.l0 (k + 1) y0 y1 y2 y3))
  | 0 => ⟨fun _ _ _ _ r h => by simp [chicorylaw03_NumberBytes.j0] at h, fun _ _ _ r h => by simp [chicorylaw03_NumberBytes.j1] at h, fun _ _ _ _ _ r h => by simp [chicorylaw03_NumberBytes.j2] at h, fun _ _ _ _ r h => by simp [chicorylaw03_NumberBytes.l0] at h⟩
  | k + 1 => by
    obtain ⟨ih0, ih1, ih2, ih3⟩ := chicorylaw03_NumberBytes.mono_l k
    refine ⟨?_, ?_, ?_, ?_⟩
    · intro y0 y1 y2 y3
      unfold chicorylaw03_NumberBytes.j0
      repeat' first
      | (with_reducible exact ih0 _ _ _ _)
      | (with_reducible exact ih1 _ _ _)
      | (with_reducible exact ih2 _ _ _ _ _)
      | (with_reducible exact ih3 _ _ _ _)
      | (with_reducible exact chicorylaw01_Bytes.mono _ _ _)
      | (with_reducible exact chicorylaw03_awake.mono _)
      | (with_reducible exact chicorylaw03_is.mono _ _ _)
      | (with_reducible exact chicoryref03_Bytes.mono _ _)
      | (with_reducible exact number_Bytes.mono _ _ _)
      | (with_reducible exact number_Of.mono _ _)
      | (with_reducible exact LeO.refl _)
      | (with_reducible exact LeO.none _)
      | (with_reducible refine LeO.ite ?_ ?_)
      | (with_reducible refine LeO.bind ?_ (fun _ => ?_))
      | exact ih0 _ _ _ _
      | exact ih1 _ _ _
      | exact ih2 _ _ _ _ _
      | exact ih3 _ _ _ _
      | exact chicorylaw01_Bytes.mono _ _ _
      | exact chicorylaw03_awake.mono _
      | exact chicorylaw03_is.mono _ _ _
      | exact chicoryref03_Bytes.mono _ _
      | exact number_Bytes.mono _ _ _
      | exact number_Of.mono _ _
      | exact LeO.none _
      | refine LeO.ite ?_ ?_
      | refine LeO.bind ?_ (fun _ => ?_)
    · intro y0 y1 y2
      unfold chicorylaw03_NumberBytes.j1
      repeat' first
      | (with_reducible exact ih0 _ _ _ _)
      | (with_reducible exact ih1 _ _ _)
      | (with_reducible exact ih2 _ _ _ _ _)
      | (with_reducible exact ih3 _ _ _ _)
      | (with_reducible exact chicorylaw01_Bytes.mono _ _ _)
      | (with_reducible exact chicorylaw03_awake.mono _)
      | (with_reducible exact chicorylaw03_is.mono _ _ _)
      | (with_reducible exact chicoryref03_Bytes.mono _ _)
      | (with_reducible exact number_Bytes.mono _ _ _)
      | (with_reducible exact number_Of.mono _ _)
      | (with_reducible exact LeO.refl _)
      | (with_reducible exact LeO.none _)
      | (with_reducible refine LeO.ite ?_ ?_)
      | (with_reducible refine LeO.bind ?_ (fun _ => ?_))
      | exact ih0 _ _ _ _
      | exact ih1 _ _ _
      | exact ih2 _ _ _ _ _
      | exact ih3 _ _ _ _
      | exact chicorylaw01_Bytes.mono _ _ _
      | exact chicorylaw03_awake.mono _
      | exact chicorylaw03_is.mono _ _ _
      | exact chicoryref03_Bytes.mono _ _
      | exact number_Bytes.mono _ _ _
      | exact number_Of.mono _ _
      | exact LeO.none _
      | refine LeO.ite ?_ ?_
      | refine LeO.bind ?_ (fun _ => ?_)
    · intro y0 y1 y2 y3 y4
      unfold chicorylaw03_NumberBytes.j2
      repeat' first
      | (with_reducible exact ih0 _ _ _ _)
      | (with_reducible exact ih1 _ _ _)
      | (with_reducible exact ih2 _ _ _ _ _)
      | (with_reducible exact ih3 _ _ _ _)
      | (with_reducible exact chicorylaw01_Bytes.mono _ _ _)
      | (with_reducible exact chicorylaw03_awake.mono _)
      | (with_reducible exact chicorylaw03_is.mono _ _ _)
      | (with_reducible exact chicoryref03_Bytes.mono _ _)
      | (with_reducible exact number_Bytes.mono _ _ _)
      | (with_reducible exact number_Of.mono _ _)
      | (with_reducible exact LeO.refl _)
      | (with_reducible exact LeO.none _)
      | (with_reducible refine LeO.ite ?_ ?_)
      | (with_reducible refine LeO.bind ?_ (fun _ => ?_))
      | exact ih0 _ _ _ _
      | exact ih1 _ _ _
      | exact ih2 _ _ _ _ _
      | exact ih3 _ _ _ _
      | exact chicorylaw01_Bytes.mono _ _ _
      | exact chicorylaw03_awake.mono _
      | exact chicorylaw03_is.mono _ _ _
      | exact chicoryref03_Bytes.mono _ _
      | exact number_Bytes.mono _ _ _
      | exact number_Of.mono _ _
      | exact LeO.none _
      | refine LeO.ite ?_ ?_
      | refine LeO.bind ?_ (fun _ => ?_)
    · intro y0 y1 y2 y3
      unfold chicorylaw03_NumberBytes.l0
      repeat' first
      | (with_reducible exact ih0 _ _ _ _)
      | (with_reducible exact ih1 _ _ _)
      | (with_reducible exact ih2 _ _ _ _ _)
      | (with_reducible exact ih3 _ _ _ _)
      | (with_reducible exact chicorylaw01_Bytes.mono _ _ _)
      | (with_reducible exact chicorylaw03_awake.mono _)
      | (with_reducible exact chicorylaw03_is.mono _ _ _)
      | (with_reducible exact chicoryref03_Bytes.mono _ _)
      | (with_reducible exact number_Bytes.mono _ _ _)
      | (with_reducible exact number_Of.mono _ _)
      | (with_reducible exact LeO.refl _)
      | (with_reducible exact LeO.none _)
      | (with_reducible refine LeO.ite ?_ ?_)
      | (with_reducible refine LeO.bind ?_ (fun _ => ?_))
      | exact ih0 _ _ _ _
      | exact ih1 _ _ _
      | exact ih2 _ _ _ _ _
      | exact ih3 _ _ _ _
      | exact chicorylaw01_Bytes.mono _ _ _
      | exact chicorylaw03_awake.mono _
      | exact chicorylaw03_is.mono _ _ _
      | exact chicoryref03_Bytes.mono _ _
      | exact number_Bytes.mono _ _ _
      | exact number_Of.mono _ _
      | exact LeO.none _
      | refine LeO.ite ?_ ?_
      | refine LeO.bind ?_ (fun _ => ?_)
theorem chicorylaw03_NumberBytes.mono : ∀ a0 a1 a2 k, LeO (chicorylaw03_NumberBytes.f k a0 a1 a2) (chicorylaw03_NumberBytes.f (k + 1) a0 a1 a2) := by
  intro a0 a1 a2 k
  obtain ⟨ih0, ih1, ih2, ih3⟩ := chicorylaw03_NumberBytes.mono_l k
  unfold chicorylaw03_NumberBytes.f
  repeat' first
      | (with_reducible exact ih0 _ _ _ _)
      | (with_reducible exact ih1 _ _ _)
      | (with_reducible exact ih2 _ _ _ _ _)
      | (with_reducible exact ih3 _ _ _ _)
      | (with_reducible exact chicorylaw01_Bytes.mono _ _ _)
      | (with_reducible exact chicorylaw03_awake.mono _)
      | (with_reducible exact chicorylaw03_is.mono _ _ _)
      | (with_reducible exact chicoryref03_Bytes.mono _ _)
      | (with_reducible exact number_Bytes.mono _ _ _)
      | (with_reducible exact number_Of.mono _ _)
      | (with_reducible exact LeO.refl _)
      | (with_reducible exact LeO.none _)
      | (with_reducible refine LeO.ite ?_ ?_)
      | (with_reducible refine LeO.bind ?_ (fun _ => ?_))
      | exact ih0 _ _ _ _
      | exact ih1 _ _ _
      | exact ih2 _ _ _ _ _
      | exact ih3 _ _ _ _
      | exact chicorylaw01_Bytes.mono _ _ _
      | exact chicorylaw03_awake.mono _
      | exact chicorylaw03_is.mono _ _ _
      | exact chicoryref03_Bytes.mono _ _
      | exact number_Bytes.mono _ _ _
      | exact number_Of.mono _ _
      | exact LeO.none _
      | refine LeO.ite ?_ ?_
      | refine LeO.bind ?_ (fun _ => ?_)
set_option maxHeartbeats 8000000 in
set_option maxRecDepth 100000 in
theorem chicorylaw03_NumberBytes.calls (k : Nat) (A0 : Option Addr) (c0 : Nat) (l0 : List Int) (A1 : Option Addr) (c1 : Nat) (l1 : List Int) (a2 : Int) (w : World) (hr0 : Kd.C (Kd.int .u8) w A0 l0.length l0) (hc0 : l0.length ≤ c0) (hr1 : Kd.C (Kd.int .u64) w A1 l1.length l1) (hc1 : l1.length ≤ c1) (h : chicorylaw03_NumberBytes.f k l0 l1 a2 = some true) :
    Calls Try.prog 16 #[.slice A0 l0.length c0, .slice A1 l1.length c1, .int .i64 a2] w fun e w' => e = .returned (.bool true) ∧ Below w.heap.size w w' := by
  have HR0 := Aside0.mk hr0
  have HC0 := Aside0.mk hc0
  clear hr0 hc0
  have HR1 := Aside0.mk hr1
  have HC1 := Aside0.mk hc1
  clear hr1 hc1
  have HB := Aside0.mk (Below.refl w.heap.size w)
  have H : (if (l0.length : Int) > 200 then (chicorylaw03_NumberBytes.j0 k l0 l1 a2 true) else ((chicorylaw03_few.f l1).bind fun t680 => (if t680 = true then (if a2 > 300 then (chicorylaw03_NumberBytes.j0 k l0 l1 a2 (decide (a2 ≤ 65536))) else (chicorylaw03_NumberBytes.j0 k l0 l1 a2 false)) else (chicorylaw03_NumberBytes.j0 k l0 l1 a2 true)))) = some true := h
  clear h
  have HC4 := Aside0.mk H
  clear H
  go_enter Try.func16, Try.ntmps16
  go_upto_region 1 with (fail)
  go_cut [28] (fun v28 wc => ∃ (kq : Nat) (x28_3 : Bool), v28 = .bool x28_3 ∧ Aside0 (chicorylaw03_NumberBytes.j0 kq l0 l1 a2 x28_3 = some true) ∧ Aside0 (kq ≤ k) ∧ Aside0 (Below w.heap.size w wc))
  case first =>
    have H := HC4.out
    clear HC4
    by_cases c5 : (l0.length : Int) > 200
    · rw [if_pos c5] at H
      have c5b0 : decide (200 < (l0.length : Int)) = true := decide_eq_true c5
      have c5b1 : decide (200 < l0.length) = true := decide_eq_true (by omega)
      clear c5
      (first | rw [c5b0] | (simp only [i64_w, i32_w]; rw [c5b0]) | skip)
      have H' := Aside0.mk H
      clear H
      go_wp2
      go_meet
      case rel => exact ⟨_, (true), (by first | rfl | (simp; done) | (simp [*]; done)), H', ⟨by first | omega | exact Nat.le_refl _⟩, ⟨by repeat (first | (with_reducible first | exact HB.out | apply below_alloc | apply pw_below_drewN | apply below_drew1) | exact HB.out)⟩⟩
    · rw [if_neg c5] at H
      have c5b0 : decide (200 < (l0.length : Int)) = false := decide_eq_false c5
      have c5b1 : decide (200 < l0.length) = false := decide_eq_false (by omega)
      clear c5
      (first | rw [c5b0] | (simp only [i64_w, i32_w]; rw [c5b0]) | skip)
      replace H := Option.bind_eq_some_iff.mp H
      obtain ⟨t680, A60, H⟩ := H
      replace H : (if t680 = true then (if a2 > 300 then (chicorylaw03_NumberBytes.j0 k l0 l1 a2 (decide (a2 ≤ 65536))) else (chicorylaw03_NumberBytes.j0 k l0 l1 a2 false)) else (chicorylaw03_NumberBytes.j0 k l0 l1 a2 true)) = some true := H
      have A6 := Aside0.mk A60
      clear A60
      by_cases c7 : t680 = true
      · subst c7
        have H1 : (if a2 > 300 then (chicorylaw03_NumberBytes.j0 k l0 l1 a2 (decide (a2 ≤ 65536))) else (chicorylaw03_NumberBytes.j0 k l0 l1 a2 false)) = some true := by rw [if_pos rfl] at H; exact H
        clear H
        have H := H1
        clear H1
        by_cases c8 : a2 > 300
        · rw [if_pos c8] at H
          have c8b0 : decide (300 < a2) = true := decide_eq_true c8
          clear c8
          have H' := Aside0.mk H
          clear H
          go_wp2_with (first | (go_at_call 39; (with_reducible refine (chicorylaw03_few.calls _ _ l1 true _ ?side1 ?side2 A6.out).mono ?_); (case side1 => repeat (first | exact (Kd.C_below HR1.out HB.out) | (with_reducible refine Kd.C_alloc ?_ _) | (with_reducible refine Kd.C_drewN ?_ _) | (with_reducible refine Kd.C_drew ?_))); (case side2 => exact HC1.out); rintro e w' ⟨rfl, ⟨nd, rfl⟩⟩))
          go_meet
          case rel => exact ⟨_, (decide (a2 ≤ 65536)), (by first | rfl | (simp; done) | (simp [*]; done)), H', ⟨by first | omega | exact Nat.le_refl _⟩, ⟨by repeat (first | (with_reducible first | exact HB.out | apply below_alloc | apply pw_below_drewN | apply below_drew1) | exact HB.out)⟩⟩
        · rw [if_neg c8] at H
          have c8b0 : decide (300 < a2) = false := decide_eq_false c8
          clear c8
          have H' := Aside0.mk H
          clear H
          go_wp2_with (first | (go_at_call 39; (with_reducible refine (chicorylaw03_few.calls _ _ l1 true _ ?side1 ?side2 A6.out).mono ?_); (case side1 => repeat (first | exact (Kd.C_below HR1.out HB.out) | (with_reducible refine Kd.C_alloc ?_ _) | (with_reducible refine Kd.C_drewN ?_ _) | (with_reducible refine Kd.C_drew ?_))); (case side2 => exact HC1.out); rintro e w' ⟨rfl, ⟨nd, rfl⟩⟩))
          go_meet
          case rel => exact ⟨_, (false), (by first | rfl | (simp; done) | (simp [*]; done)), H', ⟨by first | omega | exact Nat.le_refl _⟩, ⟨by repeat (first | (with_reducible first | exact HB.out | apply below_alloc | apply pw_below_drewN | apply below_drew1) | exact HB.out)⟩⟩
      · replace c7 := Bool.eq_false_iff.mpr c7
        subst c7
        have H1 : (chicorylaw03_NumberBytes.j0 k l0 l1 a2 true) = some true := by rw [if_neg (show ¬ (false = true) by decide)] at H; exact H
        clear H
        have H := H1
        clear H1
        have H' := Aside0.mk H
        clear H
        go_wp2_with (first | (go_at_call 39; (with_reducible refine (chicorylaw03_few.calls _ _ l1 false _ ?side1 ?side2 A6.out).mono ?_); (case side1 => repeat (first | exact (Kd.C_below HR1.out HB.out) | (with_reducible refine Kd.C_alloc ?_ _) | (with_reducible refine Kd.C_drewN ?_ _) | (with_reducible refine Kd.C_drew ?_))); (case side2 => exact HC1.out); rintro e w' ⟨rfl, ⟨nd, rfl⟩⟩))
        go_meet
        case rel => exact ⟨_, (true), (by first | rfl | (simp; done) | (simp [*]; done)), H', ⟨by first | omega | exact Nat.le_refl _⟩, ⟨by repeat (first | (with_reducible first | exact HB.out | apply below_alloc | apply pw_below_drewN | apply below_drew1) | exact HB.out)⟩⟩
  case rest =>
    clear HC4
    try clear c1
    try clear p2
    try clear c5
    try clear c5b0
    try clear c5b1
    try clear c7
    try clear c8
    try clear c8b0
    obtain ⟨kq, x28_3, rfl, HA, HJ3, HB⟩ := hcut
    cases kq with
    | zero => exact absurd HA.out (by simp [chicorylaw03_NumberBytes.j0])
    | succ kj3 =>
      have H := HA.out
      clear HA
      simp only [chicorylaw03_NumberBytes.j0] at H
      by_cases c9 : x28_3 = true
      · subst c9
        have H1 : ((chicorylaw03_awake.f kj3).bind fun t681 => (some t681)) = some true := by rw [if_pos rfl] at H; exact H
        clear H
        have H := H1
        clear H1
        replace H := Option.bind_eq_some_iff.mp H
        obtain ⟨t681, A100, H⟩ := H
        replace H : (some t681) = some true := H
        have A10 := Aside0.mk A100
        clear A100
        obtain rfl := Option.some.inj H
        go_wp2_with (first | ((with_reducible refine gate_callee (f := 40) rfl ?_); refine goesL_ (some 29) rfl rfl Try.func40 (by kernel_rfl) rfl #[] rfl (by (try simp only [List.map_toArray, List.map_cons, List.map_nil]); first | done | rfl | (simp only [List.length_drop, List.length_take]; rfl)) ?_; (with_reducible refine (chicorylaw03_awake.calls kj3  true _ A10.out).mono ?_); rintro e w11 ⟨rfl, hb⟩; refine ⟨_, rfl, ?_⟩; have n0_ := Aside0.mk (below_step (by repeat (first | (with_reducible first | exact HB.out | apply below_alloc | apply pw_below_drewN | apply below_drew1) | exact HB.out)) hb); clear HB; have HB := n0_; clear n0_; (try clear hb); (try clear hb2); (try clear hk); (try clear hi)))
        go_ret
        exact ⟨by first | rfl | (simp [errW_none, errW_some] <;> rfl) | (simp [*, errW_none, errW_some] <;> rfl), by repeat (first | (with_reducible first | exact HB.out | apply below_alloc | apply pw_below_drewN | apply below_drew1) | exact HB.out)⟩
      · replace c9 := Bool.eq_false_iff.mpr c9
        subst c9
        have H1 : ((number_Of.f kj3 l0).bind fun t682 => ((number_Bytes.f kj3 t682 (l0.length : Int)).bind fun bt685 => ((chicorylaw03_is.f kj3 t682 l0).bind fun t689 => (if t689 = true then ((chicorylaw01_Bytes.f kj3 bt685.1 l0).bind fun t690 => (if t690 = true then (chicorylaw03_NumberBytes.j1 kj3 l1 a2 (bt685.2 != 0)) else (chicorylaw03_NumberBytes.j1 kj3 l1 a2 true))) else (chicorylaw03_NumberBytes.j1 kj3 l1 a2 true))))) = some true := by rw [if_neg (show ¬ (false = true) by decide)] at H; exact H
        clear H
        have H := H1
        clear H1
        replace H := Option.bind_eq_some_iff.mp H
        obtain ⟨t682, A120, H⟩ := H
        replace H : ((number_Bytes.f kj3 t682 (l0.length : Int)).bind fun bt685 => ((chicorylaw03_is.f kj3 t682 l0).bind fun t689 => (if t689 = true then ((chicorylaw01_Bytes.f kj3 bt685.1 l0).bind fun t690 => (if t690 = true then (chicorylaw03_NumberBytes.j1 kj3 l1 a2 (bt685.2 != 0)) else (chicorylaw03_NumberBytes.j1 kj3 l1 a2 true))) else (chicorylaw03_NumberBytes.j1 kj3 l1 a2 true)))) = some true := H
        have A12 := Aside0.mk A120
        clear A120
        replace H := Option.bind_eq_some_iff.mp H
        obtain ⟨⟨t685, t686⟩, A130, H⟩ := H
        replace H : ((chicorylaw03_is.f kj3 t682 l0).bind fun t689 => (if t689 = true then ((chicorylaw01_Bytes.f kj3 t685 l0).bind fun t690 => (if t690 = true then (chicorylaw03_NumberBytes.j1 kj3 l1 a2 (t686 != 0)) else (chicorylaw03_NumberBytes.j1 kj3 l1 a2 true))) else (chicorylaw03_NumberBytes.j1 kj3 l1 a2 true))) = some true := H
        have A13 := Aside0.mk A130
        clear A130
        have HC14 := Aside0.mk H
        clear H
        go_upto_region 5 with (first | ((with_reducible refine gate_callee (f := 36) rfl ?_); refine goesL_ (some 31) rfl rfl Try.func36 (by kernel_rfl) rfl #[.slice A0 l0.length c0] rfl (by (try simp only [List.map_toArray, List.map_cons, List.map_nil]); first | done | rfl | (simp only [List.length_drop, List.length_take]; rfl)) ?_; (with_reducible refine (number_Of.calls kj3 _ _ l0 t682 _ ?side1 ?side2 A12.out).mono ?_); (case side1 => repeat (first | exact (Kd.C_below HR0.out HB.out) | (with_reducible refine Kd.C_alloc ?_ _) | (with_reducible refine Kd.C_drewN ?_ _) | (with_reducible refine Kd.C_drew ?_))); (case side2 => exact HC0.out); rintro e w15 ⟨v683, rfl, ho0, hb⟩; refine ⟨_, rfl, ?_⟩; have n0_ := Aside0.mk (Kd.V_lower (Kd.V_mono (ok' := fun k_ => True) ho0 (fun k_ hk_ => trivial)) (below_size (by repeat (first | (with_reducible first | exact HB.out | apply below_alloc | apply pw_below_drewN | apply below_drew1) | exact HB.out)))); have n1_ := Aside0.mk (below_step (by repeat (first | (with_reducible first | exact HB.out | apply below_alloc | apply pw_below_drewN | apply below_drew1) | exact HB.out)) hb); clear HB; have HO684 := n0_; have HB := n1_; clear n0_ n1_; (try clear hb); (try clear hb2); (try clear hk); (try clear hi); (try clear ho0); obtain ⟨Ao16, co16, eo16⟩ := Kd.V_slice HO684.out; subst eo16) | ((with_reducible refine gate_callee (f := 59) rfl ?_); refine goesL_ (some 36) rfl rfl Try.func59 (by kernel_rfl) rfl #[.slice Ao16 t682.length co16, .int .i64 (l0.length : Int)] rfl (by (try simp only [List.map_toArray, List.map_cons, List.map_nil]); first | done | rfl | (simp only [List.length_drop, List.length_take]; rfl)) ?_; (with_reducible refine (number_Bytes.calls kj3 _ _ t682 (l0.length : Int) t685 t686 _ ?side1 ?side2 A13.out).mono ?_); (case side1 => repeat (first | exact (Kd.V_reads' HO684.out).2.2 | (with_reducible refine Kd.C_alloc ?_ _) | (with_reducible refine Kd.C_drewN ?_ _) | (with_reducible refine Kd.C_drew ?_))); (case side2 => exact (Kd.V_reads' HO684.out).2.1); rintro e w17 ⟨v687, rfl, ho0, hb⟩; refine ⟨_, rfl, ?_⟩; have n0_ := Aside0.mk (Kd.V_elder' (by (with_reducible repeat (first | apply Kd.V_alloc | apply Kd.V_drewN | apply Kd.V_drew)); exact HO684.out) (Kd.R_base ho0) hb); have n1_ := Aside0.mk (Kd.R_lower ho0 (below_size (by repeat (first | (with_reducible first | exact HB.out | apply below_alloc | apply pw_below_drewN | apply below_drew1) | exact HB.out)))); have n2_ := Aside0.mk (below_step (by repeat (first | (with_reducible first | exact HB.out | apply below_alloc | apply pw_below_drewN | apply below_drew1) | exact HB.out)) hb); clear HO684; clear HB; have HO684 := n0_; have HO688 := n1_; have HB := n2_; clear n0_ n1_ n2_; (try clear hb); (try clear hb2); (try clear hk); (try clear hi); (try clear ho0)))
        (try simp only [Act.put, List.setIfInBounds_toArray, List.set_cons_zero, List.set_cons_succ])
        go_cut [52] (fun v52 wc => ∃ (kq : Nat) (x52_13 : Bool), v52 = .bool x52_13 ∧ Aside0 (chicorylaw03_NumberBytes.j1 kq l1 a2 x52_13 = some true) ∧ Aside0 (kq ≤ kj3) ∧ Aside0 (Below w.heap.size w wc))
        case first =>
          have H := HC14.out
          clear HC14
          replace H := Option.bind_eq_some_iff.mp H
          obtain ⟨t689, A180, H⟩ := H
          replace H : (if t689 = true then ((chicorylaw01_Bytes.f kj3 t685 l0).bind fun t690 => (if t690 = true then (chicorylaw03_NumberBytes.j1 kj3 l1 a2 (t686 != 0)) else (chicorylaw03_NumberBytes.j1 kj3 l1 a2 true))) else (chicorylaw03_NumberBytes.j1 kj3 l1 a2 true)) = some true := H
          have A18 := Aside0.mk A180
          clear A180
          by_cases c19 : t689 = true
          · subst c19
            have H1 : ((chicorylaw01_Bytes.f kj3 t685 l0).bind fun t690 => (if t690 = true then (chicorylaw03_NumberBytes.j1 kj3 l1 a2 (t686 != 0)) else (chicorylaw03_NumberBytes.j1 kj3 l1 a2 true))) = some true := by rw [if_pos rfl] at H; exact H
            clear H
            have H := H1
            clear H1
            replace H := Option.bind_eq_some_iff.mp H
            obtain ⟨t690, A200, H⟩ := H
            replace H : (if t690 = true then (chicorylaw03_NumberBytes.j1 kj3 l1 a2 (t686 != 0)) else (chicorylaw03_NumberBytes.j1 kj3 l1 a2 true)) = some true := H
            have A20 := Aside0.mk A200
            clear A200
            by_cases c21 : t690 = true
            · subst c21
              have H1 : (chicorylaw03_NumberBytes.j1 kj3 l1 a2 (t686 != 0)) = some true := by rw [if_pos rfl] at H; exact H
              clear H
              have H := H1
              clear H1
              have H' := Aside0.mk H
              clear H
              go_wp2_with (first | ((with_reducible refine gate_callee (f := 47) rfl ?_); refine goesL_ (some 41) rfl rfl Try.func47 (by kernel_rfl) rfl #[.slice Ao16 t682.length co16, .slice A0 l0.length c0] rfl (by (try simp only [List.map_toArray, List.map_cons, List.map_nil]); first | done | rfl | (simp only [List.length_drop, List.length_take]; rfl)) ?_; (with_reducible refine (chicorylaw03_is.calls kj3 _ _ t682 _ _ l0 true _ ?side1 ?side2 ?side3 ?side4 A18.out).mono ?_); (case side1 => repeat (first | exact (Kd.V_reads' HO684.out).2.2 | (with_reducible refine Kd.C_alloc ?_ _) | (with_reducible refine Kd.C_drewN ?_ _) | (with_reducible refine Kd.C_drew ?_))); (case side2 => exact (Kd.V_reads' HO684.out).2.1); (case side3 => repeat (first | exact (Kd.C_below HR0.out HB.out) | (with_reducible refine Kd.C_alloc ?_ _) | (with_reducible refine Kd.C_drewN ?_ _) | (with_reducible refine Kd.C_drew ?_))); (case side4 => exact HC0.out); rintro e w22 ⟨rfl, hb⟩; refine ⟨_, rfl, ?_⟩; have n0_ := Aside0.mk (Kd.V_below (by (with_reducible repeat (first | apply Kd.V_alloc | apply Kd.V_drewN | apply Kd.V_drew)); exact HO684.out) hb); have n1_ := Aside0.mk (Kd.R_below (by (with_reducible repeat (first | apply Kd.R_alloc | apply Kd.R_drewN | apply Kd.R_drew)); exact HO688.out) hb); have n2_ := Aside0.mk (below_step (by repeat (first | (with_reducible first | exact HB.out | apply below_alloc | apply pw_below_drewN | apply below_drew1) | exact HB.out)) hb); clear HO684; clear HO688; clear HB; have HO684 := n0_; have HO688 := n1_; have HB := n2_; clear n0_ n1_ n2_; (try clear hb); (try clear hb2); (try clear hk); (try clear hi); obtain ⟨Ao23, co23, eo23⟩ := Kd.R_slice HO688.out; subst eo23) | (go_at_call 60; (with_reducible refine (chicorylaw01_Bytes.calls kj3 _ _ t685 _ _ l0 true _ ?side1 ?side2 ?side3 ?side4 A20.out).mono ?_); (case side1 => repeat (first | exact (Kd.R_reads' HO688.out).2.2 | (with_reducible refine Kd.C_alloc ?_ _) | (with_reducible refine Kd.C_drewN ?_ _) | (with_reducible refine Kd.C_drew ?_))); (case side2 => exact (Kd.R_reads' HO688.out).2.1); (case side3 => repeat (first | exact (Kd.C_below HR0.out HB.out) | (with_reducible refine Kd.C_alloc ?_ _) | (with_reducible refine Kd.C_drewN ?_ _) | (with_reducible refine Kd.C_drew ?_))); (case side4 => exact HC0.out); rintro e w' ⟨rfl, ⟨nd, rfl⟩⟩))
              go_meet
              case rel => exact ⟨_, ((t686 != 0)), (by first | rfl | (simp; done) | (simp [*]; done)), H', ⟨by have := HJ3.out; first | omega | exact Nat.le_refl _⟩, ⟨by repeat (first | (with_reducible first | exact HB.out | apply below_alloc | apply pw_below_drewN | apply below_drew1) | exact HB.out)⟩⟩
            · replace c21 := Bool.eq_false_iff.mpr c21
              subst c21
              have H1 : (chicorylaw03_NumberBytes.j1 kj3 l1 a2 true) = some true := by rw [if_neg (show ¬ (false = true) by decide)] at H; exact H
              clear H
              have H := H1
              clear H1
              have H' := Aside0.mk H
              clear H
              go_wp2_with (first | ((with_reducible refine gate_callee (f := 47) rfl ?_); refine goesL_ (some 41) rfl rfl Try.func47 (by kernel_rfl) rfl #[.slice Ao16 t682.length co16, .slice A0 l0.length c0] rfl (by (try simp only [List.map_toArray, List.map_cons, List.map_nil]); first | done | rfl | (simp only [List.length_drop, List.length_take]; rfl)) ?_; (with_reducible refine (chicorylaw03_is.calls kj3 _ _ t682 _ _ l0 true _ ?side1 ?side2 ?side3 ?side4 A18.out).mono ?_); (case side1 => repeat (first | exact (Kd.V_reads' HO684.out).2.2 | (with_reducible refine Kd.C_alloc ?_ _) | (with_reducible refine Kd.C_drewN ?_ _) | (with_reducible refine Kd.C_drew ?_))); (case side2 => exact (Kd.V_reads' HO684.out).2.1); (case side3 => repeat (first | exact (Kd.C_below HR0.out HB.out) | (with_reducible refine Kd.C_alloc ?_ _) | (with_reducible refine Kd.C_drewN ?_ _) | (with_reducible refine Kd.C_drew ?_))); (case side4 => exact HC0.out); rintro e w24 ⟨rfl, hb⟩; refine ⟨_, rfl, ?_⟩; have n0_ := Aside0.mk (Kd.V_below (by (with_reducible repeat (first | apply Kd.V_alloc | apply Kd.V_drewN | apply Kd.V_drew)); exact HO684.out) hb); have n1_ := Aside0.mk (Kd.R_below (by (with_reducible repeat (first | apply Kd.R_alloc | apply Kd.R_drewN | apply Kd.R_drew)); exact HO688.out) hb); have n2_ := Aside0.mk (below_step (by repeat (first | (with_reducible first | exact HB.out | apply below_alloc | apply pw_below_drewN | apply below_drew1) | exact HB.out)) hb); clear HO684; clear HO688; clear HB; have HO684 := n0_; have HO688 := n1_; have HB := n2_; clear n0_ n1_ n2_; (try clear hb); (try clear hb2); (try clear hk); (try clear hi); obtain ⟨Ao25, co25, eo25⟩ := Kd.R_slice HO688.out; subst eo25) | (go_at_call 60; (with_reducible refine (chicorylaw01_Bytes.calls kj3 _ _ t685 _ _ l0 false _ ?side1 ?side2 ?side3 ?side4 A20.out).mono ?_); (case side1 => repeat (first | exact (Kd.R_reads' HO688.out).2.2 | (with_reducible refine Kd.C_alloc ?_ _) | (with_reducible refine Kd.C_drewN ?_ _) | (with_reducible refine Kd.C_drew ?_))); (case side2 => exact (Kd.R_reads' HO688.out).2.1); (case side3 => repeat (first | exact (Kd.C_below HR0.out HB.out) | (with_reducible refine Kd.C_alloc ?_ _) | (with_reducible refine Kd.C_drewN ?_ _) | (with_reducible refine Kd.C_drew ?_))); (case side4 => exact HC0.out); rintro e w' ⟨rfl, ⟨nd, rfl⟩⟩))
              go_meet
              case rel => exact ⟨_, (true), (by first | rfl | (simp; done) | (simp [*]; done)), H', ⟨by have := HJ3.out; first | omega | exact Nat.le_refl _⟩, ⟨by repeat (first | (with_reducible first | exact HB.out | apply below_alloc | apply pw_below_drewN | apply below_drew1) | exact HB.out)⟩⟩
          · replace c19 := Bool.eq_false_iff.mpr c19
            subst c19
            have H1 : (chicorylaw03_NumberBytes.j1 kj3 l1 a2 true) = some true := by rw [if_neg (show ¬ (false = true) by decide)] at H; exact H
            clear H
            have H := H1
            clear H1
            have H' := Aside0.mk H
            clear H
            go_wp2_with (first | ((with_reducible refine gate_callee (f := 47) rfl ?_); refine goesL_ (some 41) rfl rfl Try.func47 (by kernel_rfl) rfl #[.slice Ao16 t682.length co16, .slice A0 l0.length c0] rfl (by (try simp only [List.map_toArray, List.map_cons, List.map_nil]); first | done | rfl | (simp only [List.length_drop, List.length_take]; rfl)) ?_; (with_reducible refine (chicorylaw03_is.calls kj3 _ _ t682 _ _ l0 false _ ?side1 ?side2 ?side3 ?side4 A18.out).mono ?_); (case side1 => repeat (first | exact (Kd.V_reads' HO684.out).2.2 | (with_reducible refine Kd.C_alloc ?_ _) | (with_reducible refine Kd.C_drewN ?_ _) | (with_reducible refine Kd.C_drew ?_))); (case side2 => exact (Kd.V_reads' HO684.out).2.1); (case side3 => repeat (first | exact (Kd.C_below HR0.out HB.out) | (with_reducible refine Kd.C_alloc ?_ _) | (with_reducible refine Kd.C_drewN ?_ _) | (with_reducible refine Kd.C_drew ?_))); (case side4 => exact HC0.out); rintro e w26 ⟨rfl, hb⟩; refine ⟨_, rfl, ?_⟩; have n0_ := Aside0.mk (Kd.V_below (by (with_reducible repeat (first | apply Kd.V_alloc | apply Kd.V_drewN | apply Kd.V_drew)); exact HO684.out) hb); have n1_ := Aside0.mk (Kd.R_below (by (with_reducible repeat (first | apply Kd.R_alloc | apply Kd.R_drewN | apply Kd.R_drew)); exact HO688.out) hb); have n2_ := Aside0.mk (below_step (by repeat (first | (with_reducible first | exact HB.out | apply below_alloc | apply pw_below_drewN | apply below_drew1) | exact HB.out)) hb); clear HO684; clear HO688; clear HB; have HO684 := n0_; have HO688 := n1_; have HB := n2_; clear n0_ n1_ n2_; (try clear hb); (try clear hb2); (try clear hk); (try clear hi)))
            go_meet
            case rel => exact ⟨_, (true), (by first | rfl | (simp; done) | (simp [*]; done)), H', ⟨by have := HJ3.out; first | omega | exact Nat.le_refl _⟩, ⟨by repeat (first | (with_reducible first | exact HB.out | apply below_alloc | apply pw_below_drewN | apply below_drew1) | exact HB.out)⟩⟩
        case rest =>
          clear HC14
          try clear c1
          try clear c2
          try clear p2
          try clear c3
          try clear c4
          try clear c5
          try clear c5b0
          try clear c5b1
          try clear c7
          try clear c8
          try clear c8b0
          try clear c9
          try clear c16
          try clear c19
          try clear c21
          try clear p2
          obtain ⟨kq, x52_13, rfl, HA, HJ13, HB⟩ := hcut
          cases kq with
          | zero => exact absurd HA.out (by simp [chicorylaw03_NumberBytes.j1])
          | succ kj13 =>
            have H := HA.out
            clear HA
            simp only [chicorylaw03_NumberBytes.j1] at H
            by_cases c27 : x52_13 = true
            · subst c27
              have H1 : (some false) = some true := by rw [if_pos rfl] at H; exact H
              clear H
              have H := H1
              clear H1
              exact absurd H (by simp)
            · replace c27 := Bool.eq_false_iff.mpr c27
              subst c27
              have H1 : ((number_Bytes.f kj13 l1 a2).bind fun bt691 => (if a2 < 0 then (chicorylaw03_NumberBytes.j2 kj13 l1 a2 bt691.1 bt691.2 true) else (chicorylaw03_NumberBytes.j2 kj13 l1 a2 bt691.1 bt691.2 (decide (a2 > 65536))))) = some true := by rw [if_neg (show ¬ (false = true) by decide)] at H; exact H
              clear H
              have H := H1
              clear H1
              replace H := Option.bind_eq_some_iff.mp H
              obtain ⟨⟨t691, t692⟩, A280, H⟩ := H
              replace H : (if a2 < 0 then (chicorylaw03_NumberBytes.j2 kj13 l1 a2 t691 t692 true) else (chicorylaw03_NumberBytes.j2 kj13 l1 a2 t691 t692 (decide (a2 > 65536)))) = some true := H
              have A28 := Aside0.mk A280
              clear A280
              have HC29 := Aside0.mk H
              clear H
              go_upto_region 8 with (first | ((with_reducible refine gate_callee (f := 59) rfl ?_); refine goesL_ (some 56) rfl rfl Try.func59 (by kernel_rfl) rfl #[.slice A1 l1.length c1, .int .i64 a2] rfl (by (try simp only [List.map_toArray, List.map_cons, List.map_nil]); first | done | rfl | (simp only [List.length_drop, List.length_take]; rfl)) ?_; (with_reducible refine (number_Bytes.calls kj13 _ _ l1 a2 t691 t692 _ ?side1 ?side2 A28.out).mono ?_); (case side1 => repeat (first | exact (Kd.C_below HR1.out HB.out) | (with_reducible refine Kd.C_alloc ?_ _) | (with_reducible refine Kd.C_drewN ?_ _) | (with_reducible refine Kd.C_drew ?_))); (case side2 => exact HC1.out); rintro e w30 ⟨v693, rfl, ho0, hb⟩; refine ⟨_, rfl, ?_⟩; have n0_ := Aside0.mk (Kd.R_lower ho0 (below_size (by repeat (first | (with_reducible first | exact HB.out | apply below_alloc | apply pw_below_drewN | apply below_drew1) | exact HB.out)))); have n1_ := Aside0.mk (below_step (by repeat (first | (with_reducible first | exact HB.out | apply below_alloc | apply pw_below_drewN | apply below_drew1) | exact HB.out)) hb); clear HB; have HO694 := n0_; have HB := n1_; clear n0_ n1_; (try clear hb); (try clear hb2); (try clear hk); (try clear hi); (try clear ho0)))
              (try simp only [Act.put, List.setIfInBounds_toArray, List.set_cons_zero, List.set_cons_succ])
              go_cut [64] (fun v64 wc => ∃ (kq : Nat) (x64_28 : Bool), v64 = .bool x64_28 ∧ Aside0 (chicorylaw03_NumberBytes.j2 kq l1 a2 t691 t692 x64_28 = some true) ∧ Aside0 (kq ≤ kj13) ∧ Aside0 (Kd.R (Kd.int .u8) 5 wc w.heap.size (fun _ => True) v693 t691) ∧ Aside0 (Below w.heap.size w wc))
              case first =>
                have H := HC29.out
                clear HC29
                by_cases c31 : a2 < 0
                · rw [if_pos c31] at H
                  have c31b0 : decide (a2 < 0) = true := decide_eq_true c31
                  clear c31
                  (first | rw [c31b0] | (simp only [i64_w, i32_w]; rw [c31b0]) | skip)
                  have H' := Aside0.mk H
                  clear H
                  go_wp2
                  go_meet
                  case rel => exact ⟨_, (true), (by first | rfl | (simp; done) | (simp [*]; done)), H', ⟨by have := HJ3.out; have := HJ13.out; first | omega | exact Nat.le_refl _⟩, ⟨by (with_reducible repeat (first | apply Kd.R_alloc | apply Kd.R_drewN | apply Kd.R_drew)); exact HO694.out⟩, ⟨by repeat (first | (with_reducible first | exact HB.out | apply below_alloc | apply pw_below_drewN | apply below_drew1) | exact HB.out)⟩⟩
                · rw [if_neg c31] at H
                  have c31b0 : decide (a2 < 0) = false := decide_eq_false c31
                  clear c31
                  (first | rw [c31b0] | (simp only [i64_w, i32_w]; rw [c31b0]) | skip)
                  have H' := Aside0.mk H
                  clear H
                  go_wp2
                  go_meet
                  case rel => exact ⟨_, (decide (a2 > 65536)), (by first | rfl | (simp; done) | (simp [*]; done)), H', ⟨by have := HJ3.out; have := HJ13.out; first | omega | exact Nat.le_refl _⟩, ⟨by (with_reducible repeat (first | apply Kd.R_alloc | apply Kd.R_drewN | apply Kd.R_drew)); exact HO694.out⟩, ⟨by repeat (first | (with_reducible first | exact HB.out | apply below_alloc | apply pw_below_drewN | apply below_drew1) | exact HB.out)⟩⟩
              case rest =>
                clear HC29
                try clear c1
                try clear c2
                try clear p2
                try clear c3
                try clear c4
                try clear c5
                try clear c5b0
                try clear c5b1
                try clear c7
                try clear c8
                try clear c8b0
                try clear c9
                try clear c16
                try clear c19
                try clear c21
                try clear c27
                try clear c31
                try clear c31b0
                try clear p2
                obtain ⟨kq, x64_28, rfl, HA, HJ28, HO_10, HB⟩ := hcut
                cases kq with
                | zero => exact absurd HA.out (by simp [chicorylaw03_NumberBytes.j2])
                | succ kj28 =>
                  have H := HA.out
                  clear HA
                  simp only [chicorylaw03_NumberBytes.j2] at H
                  by_cases c32 : x64_28 = true
                  · subst c32
                    have H1 : (if (t691.length : Int) = 0 then (if t692 = 10 then ((chicorylaw03_awake.f kj28).bind fun t695 => (some t695)) else (some false)) else (some false)) = some true := by rw [if_pos rfl] at H; exact H
                    clear H
                    have H := H1
                    clear H1
                    by_cases c33 : (t691.length : Int) = 0
                    · rw [if_pos c33] at H
                      have c33b0 : ((t691.length : Int) == 0) = true := beq_iff_eq.mpr c33
                      have c33b1 : ((t691.length : Int) != 0) = false := bne_eq_false_iff_eq.mpr c33
                      clear c33
                      by_cases c34 : t692 = 10
                      · rw [if_pos c34] at H
                        have c34b0 : (t692 == 10) = true := beq_iff_eq.mpr c34
                        have c34b1 : (t692 != 10) = false := bne_eq_false_iff_eq.mpr c34
                        clear c34
                        replace H := Option.bind_eq_some_iff.mp H
                        obtain ⟨t695, A350, H⟩ := H
                        replace H : (some t695) = some true := H
                        have A35 := Aside0.mk A350
                        clear A350
                        obtain rfl := Option.some.inj H
                        obtain ⟨Ao36, co36, eo36⟩ := Kd.R_slice HO_10.out
                        subst eo36
                        go_wp2_with (first | (go_at_call 40; (with_reducible refine (chicorylaw03_awake.calls kj28  true _ A35.out).mono ?_); rintro e w37 ⟨rfl, hb⟩; have n0_ := Aside0.mk (Kd.R_below (by (with_reducible repeat (first | apply Kd.R_alloc | apply Kd.R_drewN | apply Kd.R_drew)); exact HO_10.out) hb); have n1_ := Aside0.mk (below_step (by repeat (first | (with_reducible first | exact HB.out | apply below_alloc | apply pw_below_drewN | apply below_drew1) | exact HB.out)) hb); clear HO_10; clear HB; have HO_10 := n0_; have HB := n1_; clear n0_ n1_; (try clear hb); (try clear hb2); (try clear hk); (try clear hi)))
                        go_ret
                        exact ⟨by first | rfl | (simp [errW_none, errW_some] <;> rfl) | (simp [*, errW_none, errW_some] <;> rfl), by repeat (first | (with_reducible first | exact HB.out | apply below_alloc | apply pw_below_drewN | apply below_drew1) | exact HB.out)⟩
                      · rw [if_neg c34] at H
                        have c34b0 : (t692 == 10) = false := beq_eq_false_iff_ne.mpr c34
                        have c34b1 : (t692 != 10) = true := bne_iff_ne.mpr c34
                        exact absurd H (by simp)
                    · rw [if_neg c33] at H
                      have c33b0 : ((t691.length : Int) == 0) = false := beq_eq_false_iff_ne.mpr c33
                      have c33b1 : ((t691.length : Int) != 0) = true := bne_iff_ne.mpr c33
                      have c33b2 : ¬ (t691 = []) := fun h_ => c33 (by rw [h_]; rfl)
                      exact absurd H (by simp)
                  · replace c32 := Bool.eq_false_iff.mpr c32
                    subst c32
                    have H1 : ((chicoryref03_Bytes.f kj28 l1).bind fun t696 => (if (t696.length : Int) > a2 then (if (t691.length : Int) = 0 then (if t692 = 11 then ((chicorylaw03_awake.f kj28).bind fun t699 => (some t699)) else (some false)) else (some false)) else (chicorylaw03_NumberBytes.l0 kj28 a2 t691 t692 t696))) = some true := by rw [if_neg (show ¬ (false = true) by decide)] at H; exact H
                    clear H
                    have H := H1
                    clear H1
                    replace H := Option.bind_eq_some_iff.mp H
                    obtain ⟨t696, A400, H⟩ := H
                    replace H : (if (t696.length : Int) > a2 then (if (t691.length : Int) = 0 then (if t692 = 11 then ((chicorylaw03_awake.f kj28).bind fun t699 => (some t699)) else (some false)) else (some false)) else (chicorylaw03_NumberBytes.l0 kj28 a2 t691 t692 t696)) = some true := H
                    have A40 := Aside0.mk A400
                    clear A400
                    by_cases c41 : (t696.length : Int) > a2
                    · rw [if_pos c41] at H
                      have c41b0 : decide (a2 < (t696.length : Int)) = true := decide_eq_true c41
                      clear c41
                      by_cases c42 : (t691.length : Int) = 0
                      · rw [if_pos c42] at H
                        have c42b0 : ((t691.length : Int) == 0) = true := beq_iff_eq.mpr c42
                        have c42b1 : ((t691.length : Int) != 0) = false := bne_eq_false_iff_eq.mpr c42
                        clear c42
                        by_cases c43 : t692 = 11
                        · rw [if_pos c43] at H
                          have c43b0 : (t692 == 11) = true := beq_iff_eq.mpr c43
                          have c43b1 : (t692 != 11) = false := bne_eq_false_iff_eq.mpr c43
                          clear c43
                          replace H := Option.bind_eq_some_iff.mp H
                          obtain ⟨t699, A440, H⟩ := H
                          replace H : (some t699) = some true := H
                          have A44 := Aside0.mk A440
                          clear A440
                          obtain rfl := Option.some.inj H
                          go_wp2_with (first | ((with_reducible refine gate_callee (f := 41) rfl ?_); refine goesL_ (some 76) rfl rfl Try.func41 (by kernel_rfl) rfl #[.slice A1 l1.length c1] rfl (by (try simp only [List.map_toArray, List.map_cons, List.map_nil]); first | done | rfl | (simp only [List.length_drop, List.length_take]; rfl)) ?_; (with_reducible refine (chicoryref03_Bytes.calls kj28 _ _ l1 t696 _ ?side1 ?side2 A40.out).mono ?_); (case side1 => repeat (first | exact (Kd.C_below HR1.out HB.out) | (with_reducible refine Kd.C_alloc ?_ _) | (with_reducible refine Kd.C_drewN ?_ _) | (with_reducible refine Kd.C_drew ?_))); (case side2 => exact HC1.out); rintro e w45 ⟨v697, rfl, ho0, hb⟩; refine ⟨_, rfl, ?_⟩; have n0_ := Aside0.mk (Kd.R_elder' (by (with_reducible repeat (first | apply Kd.R_alloc | apply Kd.R_drewN | apply Kd.R_drew)); exact HO_10.out) (Kd.R_base ho0) hb); have n1_ := Aside0.mk (Kd.R_lower (Kd.R_new' ho0 (Kd.R_lt (by (with_reducible repeat (first | apply Kd.R_alloc | apply Kd.R_drewN | apply Kd.R_drew)); exact HO_10.out))) (below_size (by repeat (first | (with_reducible first | exact HB.out | apply below_alloc | apply pw_below_drewN | apply below_drew1) | exact HB.out)))); have n2_ := Aside0.mk (below_step (by repeat (first | (with_reducible first | exact HB.out | apply below_alloc | apply pw_below_drewN | apply below_drew1) | exact HB.out)) hb); clear HO_10; clear HB; have HO_10 := n0_; have HO698 := n1_; have HB := n2_; clear n0_ n1_ n2_; (try clear hb); (try clear hb2); (try clear hk); (try clear hi); (try clear ho0); obtain ⟨Ao46, co46, eo46⟩ := Kd.R_slice HO698.out; subst eo46; obtain ⟨Ao47, co47, eo47⟩ := Kd.R_slice HO_10.out; subst eo47) | (go_at_call 40; (with_reducible refine (chicorylaw03_awake.calls kj28  true _ A44.out).mono ?_); rintro e w48 ⟨rfl, hb⟩; have n0_ := Aside0.mk (Kd.R_below (by (with_reducible repeat (first | apply Kd.R_alloc | apply Kd.R_drewN | apply Kd.R_drew)); exact HO_10.out) hb); have n1_ := Aside0.mk (Kd.R_below (by (with_reducible repeat (first | apply Kd.R_alloc | apply Kd.R_drewN | apply Kd.R_drew)); exact HO698.out) hb); have n2_ := Aside0.mk (below_step (by repeat (first | (with_reducible first | exact HB.out | apply below_alloc | apply pw_below_drewN | apply below_drew1) | exact HB.out)) hb); clear HO_10; clear HO698; clear HB; have HO_10 := n0_; have HO698 := n1_; have HB := n2_; clear n0_ n1_ n2_; (try clear hb); (try clear hb2); (try clear hk); (try clear hi)))
                          go_ret
                          exact ⟨by first | rfl | (simp [errW_none, errW_some] <;> rfl) | (simp [*, errW_none, errW_some] <;> rfl), by repeat (first | (with_reducible first | exact HB.out | apply below_alloc | apply pw_below_drewN | apply below_drew1) | exact HB.out)⟩
                        · rw [if_neg c43] at H
                          have c43b0 : (t692 == 11) = false := beq_eq_false_iff_ne.mpr c43
                          have c43b1 : (t692 != 11) = true := bne_iff_ne.mpr c43
                          exact absurd H (by simp)
                      · rw [if_neg c42] at H
                        have c42b0 : ((t691.length : Int) == 0) = false := beq_eq_false_iff_ne.mpr c42
                        have c42b1 : ((t691.length : Int) != 0) = true := bne_iff_ne.mpr c42
                        have c42b2 : ¬ (t691 = []) := fun h_ => c42 (by rw [h_]; rfl)
                        exact absurd H (by simp)
                    · rw [if_neg c41] at H
                      have c41b0 : decide (a2 < (t696.length : Int)) = false := decide_eq_false c41
                      clear c41
                      have H' := Aside0.mk H
                      clear H
                      go_wp2_with (first | ((with_reducible refine gate_callee (f := 41) rfl ?_); refine goesL_ (some 76) rfl rfl Try.func41 (by kernel_rfl) rfl #[.slice A1 l1.length c1] rfl (by (try simp only [List.map_toArray, List.map_cons, List.map_nil]); first | done | rfl | (simp only [List.length_drop, List.length_take]; rfl)) ?_; (with_reducible refine (chicoryref03_Bytes.calls kj28 _ _ l1 t696 _ ?side1 ?side2 A40.out).mono ?_); (case side1 => repeat (first | exact (Kd.C_below HR1.out HB.out) | (with_reducible refine Kd.C_alloc ?_ _) | (with_reducible refine Kd.C_drewN ?_ _) | (with_reducible refine Kd.C_drew ?_))); (case side2 => exact HC1.out); rintro e w55 ⟨v697, rfl, ho0, hb⟩; refine ⟨_, rfl, ?_⟩; have n0_ := Aside0.mk (Kd.R_elder' (by (with_reducible repeat (first | apply Kd.R_alloc | apply Kd.R_drewN | apply Kd.R_drew)); exact HO_10.out) (Kd.R_base ho0) hb); have n1_ := Aside0.mk (Kd.R_lower (Kd.R_new' ho0 (Kd.R_lt (by (with_reducible repeat (first | apply Kd.R_alloc | apply Kd.R_drewN | apply Kd.R_drew)); exact HO_10.out))) (below_size (by repeat (first | (with_reducible first | exact HB.out | apply below_alloc | apply pw_below_drewN | apply below_drew1) | exact HB.out)))); have n2_ := Aside0.mk (below_step (by repeat (first | (with_reducible first | exact HB.out | apply below_alloc | apply pw_below_drewN | apply below_drew1) | exact HB.out)) hb); clear HO_10; clear HB; have HO_10 := n0_; have HO698 := n1_; have HB := n2_; clear n0_ n1_ n2_; (try clear hb); (try clear hb2); (try clear hk); (try clear hi); (try clear ho0); obtain ⟨Ao56, co56, eo56⟩ := Kd.R_slice HO698.out; subst eo56))
                      go_loopg [12] kj28 (fun kq v12 w' => ∃ (x12_4 : List Int), Aside0 (chicorylaw03_NumberBytes.l0 kq a2 t691 t692 x12_4 = some true) ∧ Aside0 (kq ≤ kj28) ∧ Aside0 (Kd.R (Kd.int .u8) 5 w' w.heap.size (fun k_ => some k_ ≠ (v12 : Value).ownBlock) v693 t691) ∧ Aside0 (Kd.R (Kd.int .u8) 5 w' w.heap.size (fun k_ => some k_ ≠ (v693 : Value).ownBlock) v12 x12_4) ∧ Aside0 (Below w.heap.size w w'))
                      case atStart => exact ⟨(t696), H', ⟨Nat.le_refl _⟩, ⟨by (with_reducible repeat (first | apply Kd.R_alloc | apply Kd.R_drewN | apply Kd.R_drew)); exact Kd.R_mono HO_10.out (fun _ hk => hk.2)⟩, ⟨by (with_reducible repeat (first | apply Kd.R_alloc | apply Kd.R_drewN | apply Kd.R_drew)); exact Kd.R_mono HO698.out (fun _ hk => hk.2)⟩, ⟨by repeat (first | (with_reducible first | exact HB.out | apply below_alloc | apply pw_below_drewN | apply below_drew1) | exact HB.out)⟩⟩
                      case round =>
                        clear H'
                        try clear c1
                        try clear c2
                        try clear p2
                        try clear c3
                        try clear c4
                        try clear c5
                        try clear c5b0
                        try clear c5b1
                        try clear c7
                        try clear c8
                        try clear c8b0
                        try clear c9
                        try clear c16
                        try clear c19
                        try clear c21
                        try clear c27
                        try clear c31
                        try clear c31b0
                        try clear c32
                        try clear c33
                        try clear c33b0
                        try clear c33b1
                        try clear c33b2
                        try clear c34
                        try clear c34b0
                        try clear c34b1
                        try clear c36
                        try clear c40
                        try clear c41
                        try clear c41b0
                        try clear c42
                        try clear c42b0
                        try clear c42b1
                        try clear c42b2
                        try clear c43
                        try clear c43b0
                        try clear c43b1
                        try clear c47
                        try clear p2
                        obtain ⟨x12_4, HA, HK4, HO_10, HO_12, HB⟩ := hrel
                        cases gk with
                        | zero => exact absurd HA.out (by simp [chicorylaw03_NumberBytes.l0])
                        | succ k4 =>
                          have H := HA.out
                          clear HA
                          simp only [chicorylaw03_NumberBytes.l0] at H
                          by_cases c57 : (x12_4.length : Int) < a2
                          · rw [if_pos c57] at H
                            have c57b0 : decide ((x12_4.length : Int) < a2) = true := decide_eq_true c57
                            clear c57
                            by_cases c58 : x12_4.length < 140737488355328
                            · rw [if_pos c58] at H
                              have LMc58 := Aside0.mk c58
                              clear c58
                              obtain ⟨y700, hy700⟩ : ∃ y_ : List Int, y_ = (x12_4 ++ [0]) := ⟨_, rfl⟩
                              replace H : (chicorylaw03_NumberBytes.l0 k4 a2 t691 t692 y700) = some true := by first | (rw [hy700]; with_reducible exact H) | (have H2_ := (Option.bind_some _ _).symm.trans H; rw [hy700]; with_reducible exact H2_) | (have H2_ := (Option.bind_some _ _).symm.trans H; with_reducible exact H2_) | with_reducible exact H | (rw [hy700]; exact H) | exact H
                              have Ny700 := Aside0.mk hy700
                              clear hy700
                              have H' := Aside0.mk H
                              clear H
                              obtain ⟨Ao59, co59, eo59⟩ := Kd.R_slice HO_12.out
                              subst eo59
                              go_wp2_with (first | ((with_reducible refine gate_builtin (b := .append) (xs := #[.tmp 95, .tmp 96]) rfl ?_); at_builtin; refine Kd.R_append (Kd.int .u8) (w0 := w) w.heap.size rfl (.tmp 95) (.tmp 96) 22 5 (.int .u8 0) 1 rfl Try.underlying22 info5 rfl (by decide) (by omega) (.slice Ao59 x12_4.length co59) x12_4 0 [.int .u8 0] (fun k_ => some k_ ≠ (v693 : Value).ownBlock) (fun _ => False) rfl rfl ?aP (fun _ hk => hk.elim) ?aF ?aO ?aB ?aS ?aL ?_; (case aP => exact rfl); (case aB => exact (by repeat (first | (with_reducible first | exact HB.out | apply below_alloc | apply pw_below_drewN | apply below_drew1) | exact HB.out))); (case aF => exact (fun k_ hk => Kd.fresh' (Kd.R_lt (by (with_reducible repeat (first | apply Kd.R_alloc | apply Kd.R_drewN | apply Kd.R_drew)); exact HO_10.out)) k_ hk)); (case aO => exact (by (with_reducible repeat (first | apply Kd.R_alloc | apply Kd.R_drewN | apply Kd.R_drew)); exact HO_12.out)); (case aS => exact (below_size (by repeat (first | (with_reducible first | exact HB.out | apply below_alloc | apply pw_below_drewN | apply below_drew1) | exact HB.out)))); (case aL => have := LMc58.out; omega); intro v701 w60 ho hb hg hat; rw [← Ny700.out] at ho; have n0_ := Aside0.mk (Kd.R_after (ok := (fun _ => True)) (by (with_reducible repeat (first | apply Kd.R_alloc | apply Kd.R_drewN | apply Kd.R_drew)); exact Kd.R_mono HO_10.out (fun _ hk => ⟨trivial, hk⟩)) hg hat); have n1_ := Aside0.mk (hb); have n2_ := Aside0.mk (ho); clear HO_10; clear HB; clear HO_12; have HO_10 := n0_; have HB := n1_; have HO702 := n2_; clear n0_ n1_ n2_; clear ho hb hg hat))
                              go_roundg k4
                              case measure => have := HJ3.out; have := HJ13.out; have := HJ28.out; have := HK4.out; omega
                              case rel => exact ⟨(y700), H', ⟨by have := HJ3.out; have := HJ13.out; have := HJ28.out; have := HK4.out; omega⟩, ⟨by (with_reducible repeat (first | apply Kd.R_alloc | apply Kd.R_drewN | apply Kd.R_drew)); exact Kd.R_mono HO_10.out (fun _ hk => hk.2)⟩, ⟨by (with_reducible repeat (first | apply Kd.R_alloc | apply Kd.R_drewN | apply Kd.R_drew)); exact HO702.out⟩, ⟨by repeat (first | (with_reducible first | exact HB.out | apply below_alloc | apply pw_below_drewN | apply below_drew1) | exact HB.out)⟩⟩
                            · rw [if_neg c58] at H
                              exact absurd H (by simp)
                          · rw [if_neg c57] at H
                            have c57b0 : decide ((x12_4.length : Int) < a2) = false := decide_eq_false c57
                            clear c57
                            replace H := Option.bind_eq_some_iff.mp H
                            obtain ⟨t703, A610, H⟩ := H
                            replace H : (if t703 = true then (if t692 = 0 then ((chicorylaw03_awake.f k4).bind fun t704 => (some t704)) else (some false)) else (some false)) = some true := H
                            have A61 := Aside0.mk A610
                            clear A610
                            by_cases c62 : t703 = true
                            · subst c62
                              have H1 : (if t692 = 0 then ((chicorylaw03_awake.f k4).bind fun t704 => (some t704)) else (some false)) = some true := by rw [if_pos rfl] at H; exact H
                              clear H
                              have H := H1
                              clear H1
                              by_cases c63 : t692 = 0
                              · rw [if_pos c63] at H
                                have c63b0 : (t692 == 0) = true := beq_iff_eq.mpr c63
                                have c63b1 : (t692 != 0) = false := bne_eq_false_iff_eq.mpr c63
                                clear c63
                                replace H := Option.bind_eq_some_iff.mp H
                                obtain ⟨t704, A640, H⟩ := H
                                replace H : (some t704) = some true := H
                                have A64 := Aside0.mk A640
                                clear A640
                                obtain rfl := Option.some.inj H
                                obtain ⟨Ao65, co65, eo65⟩ := Kd.R_slice HO_12.out
                                subst eo65
                                obtain ⟨Ao66, co66, eo66⟩ := Kd.R_slice HO_10.out
                                subst eo66
                                go_wp2_with (first | ((with_reducible refine gate_callee (f := 60) rfl ?_); refine goesL_ (some 100) rfl rfl Try.func60 (by kernel_rfl) rfl #[.slice Ao66 t691.length co66, .slice Ao65 x12_4.length co65] rfl (by (try simp only [List.map_toArray, List.map_cons, List.map_nil]); first | done | rfl | (simp only [List.length_drop, List.length_take]; rfl)) ?_; (with_reducible refine (chicorylaw01_Bytes.calls k4 _ _ t691 _ _ x12_4 true _ ?side1 ?side2 ?side3 ?side4 A61.out).mono ?_); (case side1 => repeat (first | exact (Kd.R_reads' HO_10.out).2.2 | (with_reducible refine Kd.C_alloc ?_ _) | (with_reducible refine Kd.C_drewN ?_ _) | (with_reducible refine Kd.C_drew ?_))); (case side2 => exact (Kd.R_reads' HO_10.out).2.1); (case side3 => repeat (first | exact (Kd.R_reads' HO_12.out).2.2 | (with_reducible refine Kd.C_alloc ?_ _) | (with_reducible refine Kd.C_drewN ?_ _) | (with_reducible refine Kd.C_drew ?_))); (case side4 => exact (Kd.R_reads' HO_12.out).2.1); rintro e w' ⟨rfl, ⟨nd, rfl⟩⟩; refine ⟨_, rfl, ?_⟩) | (go_at_call 40; (with_reducible refine (chicorylaw03_awake.calls k4  true _ A64.out).mono ?_); rintro e w67 ⟨rfl, hb⟩; have n0_ := Aside0.mk (Kd.R_below (by (with_reducible repeat (first | apply Kd.R_alloc | apply Kd.R_drewN | apply Kd.R_drew)); exact HO_10.out) hb); have n1_ := Aside0.mk (Kd.R_below (by (with_reducible repeat (first | apply Kd.R_alloc | apply Kd.R_drewN | apply Kd.R_drew)); exact HO_12.out) hb); have n2_ := Aside0.mk (below_step (by repeat (first | (with_reducible first | exact HB.out | apply below_alloc | apply pw_below_drewN | apply below_drew1) | exact HB.out)) hb); clear HO_10; clear HO_12; clear HB; have HO_10 := n0_; have HO_12 := n1_; have HB := n2_; clear n0_ n1_ n2_; (try clear hb); (try clear hb2); (try clear hk); (try clear hi)))
                                go_ret
                                exact ⟨by first | rfl | (simp [errW_none, errW_some] <;> rfl) | (simp [*, errW_none, errW_some] <;> rfl), by repeat (first | (with_reducible first | exact HB.out | apply below_alloc | apply pw_below_drewN | apply below_drew1) | exact HB.out)⟩
                              · rw [if_neg c63] at H
                                have c63b0 : (t692 == 0) = false := beq_eq_false_iff_ne.mpr c63
                                have c63b1 : (t692 != 0) = true := bne_iff_ne.mpr c63
                                exact absurd H (by simp)
                            · replace c62 := Bool.eq_false_iff.mpr c62
                              subst c62
                              have H1 : (some false) = some true := by rw [if_neg (show ¬ (false = true) by decide)] at H; exact H
                              clear H
                              have H := H1
                              clear H1
                              exact absurd H (by simp)

/-- THE ONE PURE STATEMENT of chicorylaw03_NumberBytes: yours. -/
def chicorylaw03_NumberBytes.Pure : Prop := ∀ (l0 : List Int) (l1 : List Int) (a2 : Int), l0.length ≤ maxLen → l0.length * 1 ≤ 140737488351232 → (∀ x ∈ l0, (Lit.int .u8 x).wf = true) → l1.length ≤ maxLen → l1.length * 8 ≤ 140737488351232 → (∀ x ∈ l1, (Lit.int .u64 x).wf = true) → (Lit.int .i64 a2).wf = true → ∃ k, chicorylaw03_NumberBytes.f k l0 l1 a2 = some true
theorem chicorylaw03_NumberBytes.walk (P : chicorylaw03_NumberBytes.Pure) (a0 : Option Addr) (len0 cap0 : Nat) (z0 : List Int) (a1 : Option Addr) (len1 cap1 : Nat) (z1 : List Int) (a2 : Int) (w : World) (w0 : (a0 = none ∧ len0 = 0 ∧ cap0 = 0 ∧ z0 = []) ∨ ∃ x, a0 = some x ∧ len0 ≤ cap0 ∧ cap0 ≤ maxLen ∧ z0.length = cap0 ∧ (∀ i, i < z0.length → w.cell? (x.add i) = some (.int .u8 (z0.getD i 0))) ∧ ∀ n ∈ z0, (Lit.int .u8 n).wf = true) (y0 : len0 * 1 ≤ 140737488351232) (w1 : (a1 = none ∧ len1 = 0 ∧ cap1 = 0 ∧ z1 = []) ∨ ∃ x, a1 = some x ∧ len1 ≤ cap1 ∧ cap1 ≤ maxLen ∧ z1.length = cap1 ∧ (∀ i, i < z1.length → w.cell? (x.add i) = some (.int .u64 (z1.getD i 0))) ∧ ∀ n ∈ z1, (Lit.int .u64 n).wf = true) (y1 : len1 * 8 ≤ 140737488351232) (w2 : (Lit.int .i64 a2).wf = true) :
    Calls Try.prog 16 #[.slice a0 len0 cap0, .slice a1 len1 cap1, .int .i64 a2] w fun e w' => e = .returned (.bool true) ∧ Below w.heap.size w w' := by
  obtain ⟨l0, rfl, hr0, hm0, hw0, hc0⟩ := ReadsInt.ofRowC w0
  obtain ⟨l1, rfl, hr1, hm1, hw1, hc1⟩ := ReadsInt.ofRowC w1
  obtain ⟨k, h⟩ := P l0 l1 a2 hm0 y0 hw0 hm1 y1 hw1 w2
  refine (chicorylaw03_NumberBytes.calls k _ _ l0 _ _ l1 a2 w (Kd.C_of_reads (d := (0 : Int)) (h1 := fun _ => rfl) hr0) hc0 (Kd.C_of_reads (d := (0 : Int)) (h1 := fun _ => rfl) hr1) hc1 h).mono ?_
  rintro e w' ⟨rfl, hd⟩
  exact ⟨rfl, hd⟩

end Go.Proofs.Ytdaehflffecllaa.N
