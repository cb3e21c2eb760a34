-- Printed by a program of this session (wip/xprint.py, over the kit's print.py with this session's stand-ins for what that does not take); checked by Lean alone.
import Derived.Test.YtdaehflffecllaaNx0
import Derived.Test.YtdaehflffecllaaNx1
import Derived.Test.YtdaehflffecllaaNx2
import Derived.Test.YtdaehflffecllaaNx3
import Derived.Test.YtdaehflffecllaaNx6
namespace Go.Proofs.Ytdaehflffecllaa.N
open Go.RowKit Go.Proofs.YtdaehflffecllaaW.PrintWords Go.Proofs.YtdaehflffecllaaW.PrintLast Go.Proofs.YtdaehflffecllaaW.PrintMore
attribute [local go_sem] max2_int min2_int max_two min_two max_three min_three max_four min_four   -- for this text's walks alone
set_option linter.unusedVariables false
set_option linter.unusedSimpArgs false

/-! ### chicorylaw03_NumberBits: function 14 -/
mutual
def chicorylaw03_NumberBits.j0 : Nat → List Int → Bool → Int → Int → Option (Bool)
  | 0, _, _, _, _ => none
  | k + 1, x0, x41, x619000, x619001 => if x41 = true then ((chicorylaw03_awake.f k).bind fun t620 => (some t620)) else ((number_Len.f k x0).bind fun t621 => (chicorylaw03_NumberBits.l0 k x0 ([] : List Int) (wrap64 (t621 - 1)) x619000 x619001))
def chicorylaw03_NumberBits.l0 : Nat → List Int → List Int → Int → Int → Int → Option (Bool)
  | 0, _, _, _, _, _ => none
  | k + 1, x0, x5, x6, x619000, x619001 => if x6 ≥ 0 then ((number_Add.f k x5 x5).bind fun t622 => ((number_Bit.f x0 x6).bind fun t625 => ((number_Add.f k t622 (([IntKind.u64.wrap (t625)] : List Int))).bind fun t629 => (chicorylaw03_NumberBits.l0 k x0 t629 (wrap64 (x6 - 1)) x619000 x619001)))) else ((number_Compare.f k x5 x0).bind fun t632 => (if t632 = 0 then ((number_Len.f k x0).bind fun t633 => ((number_Bit.f x0 t633).bind fun t634 => (if t634 = 0 then ((number_Len.f k x0).bind fun t635 => (if t635 > 0 then ((number_Len.f k x0).bind fun t636 => ((number_Bit.f x0 (wrap64 (t636 - 1))).bind fun t637 => (chicorylaw03_NumberBits.j2 k x0 (t637 != 1) x619000 x619001))) else (chicorylaw03_NumberBits.j2 k x0 false x619000 x619001))) else (chicorylaw03_NumberBits.j2 k x0 true x619000 x619001)))) else (chicorylaw03_NumberBits.j2 k x0 true x619000 x619001)))
def chicorylaw03_NumberBits.j2 : Nat → List Int → Bool → Int → Int → Option (Bool)
  | 0, _, _, _, _ => none
  | k + 1, x0, x82, x619000, x619001 => if x82 = true then (some false) else ((number_Shift.f k x0 x619000).bind fun bt638 => ((number_Shift.f k bt638.1 x619001).bind fun bt642 => ((number_Shift.f k x0 (wrap64 (x619000 + x619001))).bind fun bt646 => ((number_Shift.f k x0 (wrap64 (-x619000))).bind fun bt650 => ((number_Shift.f k bt650.1 (wrap64 (-x619001))).bind fun bt654 => ((number_Shift.f k x0 (wrap64 ((wrap64 (-x619000)) - x619001))).bind fun bt658 => (if bt638.2 = 0 then (if bt642.2 = 0 then (if bt646.2 = 0 then (if bt650.2 = 0 then (if bt654.2 = 0 then (if bt658.2 = 0 then ((chicorylaw03_Words.f k bt642.1 bt646.1).bind fun t662 => (if t662 = true then ((chicorylaw03_Words.f k bt654.1 bt658.1).bind fun t663 => (if t663 = true then ((chicorylaw03_awake.f k).bind fun t664 => (some t664)) else (some false))) else (some false))) else (some false)) else (some false)) else (some false)) else (some false)) else (some false)) else (some false))))))))
end
def chicorylaw03_NumberBits.f (k : Nat) (l0 : List Int) (a1_0 : Int) (a1_1 : Int) : Option (Bool) := (chicorylaw03_few.f l0).bind fun t619 => (if t619 = true then (if a1_0 < 0 then (chicorylaw03_NumberBits.j0 k l0 true a1_0 a1_1) else (if a1_0 > 500 then (chicorylaw03_NumberBits.j0 k l0 true a1_0 a1_1) else (if a1_1 < 0 then (chicorylaw03_NumberBits.j0 k l0 true a1_0 a1_1) else (chicorylaw03_NumberBits.j0 k l0 (decide (a1_1 > 500)) a1_0 a1_1)))) else (chicorylaw03_NumberBits.j0 k l0 true a1_0 a1_1))
theorem chicorylaw03_NumberBits.mono_l : ∀ k, (∀ y0 y1 y2 y3, LeO (chicorylaw03_NumberBits.j0 k y0 y1 y2 y3) (chicorylaw03_NumberBits.j0 (k + 1) y0 y1 y2 y3)) ∧ (∀ y0 y1 y2 y3 y4, LeO (chicorylaw03_NumberBits.l0 k y0 y1 y2 y3 y4) (chicorylaw03_NumberBits.l0 (k + 1) y0 y1 y2 y3 y4)) ∧ (∀ y0 y1 y2 y3, LeO (chicorylaw03_NumberBits.j2 k y0 y1 y2 y3) (chicorylaw03_NumberBits.j2 (k + 1) y0 y1 y2 y3))
  | 0 => ⟨fun _ _ _ _ r h => by simp [chicorylaw03_NumberBits.j0] at h, fun _ _ _ _ _ r h => by simp [chicorylaw03_NumberBits.l0] at h, fun _ _ _ _ r h => by simp [chicorylaw03_NumberBits.j2] at h⟩
  | k + 1 => by
    obtain ⟨ih0, ih1, ih2⟩ := chicorylaw03_NumberBits.mono_l k
    refine ⟨?_, ?_, ?_⟩
    · intro y0 y1 y2 y3
      unfold chicorylaw03_NumberBits.j0
      repeat' first
      | (with_reducible exact ih0 _ _ _ _)
      | (with_reducible exact ih1 _ _ _ _ _)
      | (with_reducible exact ih2 _ _ _ _)
      | (with_reducible exact chicorylaw03_Words.mono _ _ _)
      | (with_reducible exact chicorylaw03_awake.mono _)
      | (with_reducible exact number_Add.mono _ _ _)
      | (with_reducible exact number_Compare.mono _ _ _)
      | (with_reducible exact number_Len.mono _ _)
      | (with_reducible exact number_Shift.mono _ _ _)
      | (with_reducible exact LeO.refl _)
      | (with_reducible exact LeO.none _)
      | (with_reducible refine LeO.ite ?_ ?_)
      | (with_reducible refine LeO.bind ?_ (fun _ => ?_))
      | exact ih0 _ _ _ _
      | exact ih1 _ _ _ _ _
      | exact ih2 _ _ _ _
      | exact chicorylaw03_Words.mono _ _ _
      | exact chicorylaw03_awake.mono _
      | exact number_Add.mono _ _ _
      | exact number_Compare.mono _ _ _
      | exact number_Len.mono _ _
      | exact number_Shift.mono _ _ _
      | exact LeO.none _
      | refine LeO.ite ?_ ?_
      | refine LeO.bind ?_ (fun _ => ?_)
    · intro y0 y1 y2 y3 y4
      unfold chicorylaw03_NumberBits.l0
      repeat' first
      | (with_reducible exact ih0 _ _ _ _)
      | (with_reducible exact ih1 _ _ _ _ _)
      | (with_reducible exact ih2 _ _ _ _)
      | (with_reducible exact chicorylaw03_Words.mono _ _ _)
      | (with_reducible exact chicorylaw03_awake.mono _)
      | (with_reducible exact number_Add.mono _ _ _)
      | (with_reducible exact number_Compare.mono _ _ _)
      | (with_reducible exact number_Len.mono _ _)
      | (with_reducible exact number_Shift.mono _ _ _)
      | (with_reducible exact LeO.refl _)
      | (with_reducible exact LeO.none _)
      | (with_reducible refine LeO.ite ?_ ?_)
      | (with_reducible refine LeO.bind ?_ (fun _ => ?_))
      | exact ih0 _ _ _ _
      | exact ih1 _ _ _ _ _
      | exact ih2 _ _ _ _
      | exact chicorylaw03_Words.mono _ _ _
      | exact chicorylaw03_awake.mono _
      | exact number_Add.mono _ _ _
      | exact number_Compare.mono _ _ _
      | exact number_Len.mono _ _
      | exact number_Shift.mono _ _ _
      | exact LeO.none _
      | refine LeO.ite ?_ ?_
      | refine LeO.bind ?_ (fun _ => ?_)
    · intro y0 y1 y2 y3
      unfold chicorylaw03_NumberBits.j2
      repeat' first
      | (with_reducible exact ih0 _ _ _ _)
      | (with_reducible exact ih1 _ _ _ _ _)
      | (with_reducible exact ih2 _ _ _ _)
      | (with_reducible exact chicorylaw03_Words.mono _ _ _)
      | (with_reducible exact chicorylaw03_awake.mono _)
      | (with_reducible exact number_Add.mono _ _ _)
      | (with_reducible exact number_Compare.mono _ _ _)
      | (with_reducible exact number_Len.mono _ _)
      | (with_reducible exact number_Shift.mono _ _ _)
      | (with_reducible exact LeO.refl _)
      | (with_reducible exact LeO.none _)
      | (with_reducible refine LeO.ite ?_ ?_)
      | (with_reducible refine LeO.bind ?_ (fun _ => ?_))
      | exact ih0 _ _ _ _
      | exact ih1 _ _ _ _ _
      | exact ih2 _ _ _ _
      | exact chicorylaw03_Words.mono _ _ _
      | exact chicorylaw03_awake.mono _
      | exact number_Add.mono _ _ _
      | exact number_Compare.mono _ _ _
      | exact number_Len.mono _ _
      | exact number_Shift.mono _ _ _
      | exact LeO.none _
      | refine LeO.ite ?_ ?_
      | refine LeO.bind ?_ (fun _ => ?_)
theorem chicorylaw03_NumberBits.mono : ∀ a0 a1 a2 k, LeO (chicorylaw03_NumberBits.f k a0 a1 a2) (chicorylaw03_NumberBits.f (k + 1) a0 a1 a2) := by
  intro a0 a1 a2 k
  obtain ⟨ih0, ih1, ih2⟩ := chicorylaw03_NumberBits.mono_l k
  unfold chicorylaw03_NumberBits.f
  repeat' first
      | (with_reducible exact ih0 _ _ _ _)
      | (with_reducible exact ih1 _ _ _ _ _)
      | (with_reducible exact ih2 _ _ _ _)
      | (with_reducible exact chicorylaw03_Words.mono _ _ _)
      | (with_reducible exact chicorylaw03_awake.mono _)
      | (with_reducible exact number_Add.mono _ _ _)
      | (with_reducible exact number_Compare.mono _ _ _)
      | (with_reducible exact number_Len.mono _ _)
      | (with_reducible exact number_Shift.mono _ _ _)
      | (with_reducible exact LeO.refl _)
      | (with_reducible exact LeO.none _)
      | (with_reducible refine LeO.ite ?_ ?_)
      | (with_reducible refine LeO.bind ?_ (fun _ => ?_))
      | exact ih0 _ _ _ _
      | exact ih1 _ _ _ _ _
      | exact ih2 _ _ _ _
      | exact chicorylaw03_Words.mono _ _ _
      | exact chicorylaw03_awake.mono _
      | exact number_Add.mono _ _ _
      | exact number_Compare.mono _ _ _
      | exact number_Len.mono _ _
      | exact number_Shift.mono _ _ _
      | exact LeO.none _
      | refine LeO.ite ?_ ?_
      | refine LeO.bind ?_ (fun _ => ?_)
set_option maxHeartbeats 8000000 in
set_option maxRecDepth 100000 in
theorem chicorylaw03_NumberBits.calls (k : Nat) (A0 : Option Addr) (c0 : Nat) (l0 : List Int) (a1_0 : Int) (a1_1 : Int) (w : World) (hr0 : Kd.C (Kd.int .u64) w A0 l0.length l0) (hc0 : l0.length ≤ c0) (h : chicorylaw03_NumberBits.f k l0 a1_0 a1_1 = some true) :
    Calls Try.prog 14 #[.slice A0 l0.length c0, .agg #[.int .i64 a1_0, .int .i64 a1_1]] w fun e w' => e = .returned (.bool true) ∧ Below w.heap.size w w' := by
  have hu63 := Try.underlying63
  have HR0 := Aside0.mk hr0
  have HC0 := Aside0.mk hc0
  clear hr0 hc0
  have HB := Aside0.mk (Below.refl w.heap.size w)
  have H : ((chicorylaw03_few.f l0).bind fun t619 => (if t619 = true then (if a1_0 < 0 then (chicorylaw03_NumberBits.j0 k l0 true a1_0 a1_1) else (if a1_0 > 500 then (chicorylaw03_NumberBits.j0 k l0 true a1_0 a1_1) else (if a1_1 < 0 then (chicorylaw03_NumberBits.j0 k l0 true a1_0 a1_1) else (chicorylaw03_NumberBits.j0 k l0 (decide (a1_1 > 500)) a1_0 a1_1)))) else (chicorylaw03_NumberBits.j0 k l0 true a1_0 a1_1))) = some true := h
  clear h
  have HC3 := Aside0.mk H
  clear H
  go_enter Try.func14, Try.ntmps14
  go_upto_region 1 with (first | ((with_reducible refine gate_dst (N := 3) rfl ?_); refine box_event ?hg (N := 3) ?hd (cs := #[.int .i64 a1_0, .int .i64 a1_1]) (t := 63) ?hr ?_; (case hd => rfl); (case hg => rfl); (case hr => first | (go_simp; done) | (go_simp; rfl)); intro gb618 hg w4 hbox hb; have n0_ := Aside0.mk (below_step (by repeat (first | (with_reducible first | exact HB.out | apply below_alloc | apply pw_below_drewN | apply below_drew1) | exact HB.out)) hb); have n1_ := Aside0.mk (hbox); have n2_ := Aside0.mk ((by rw [hg]; exact (below_size (by repeat (first | (with_reducible first | exact HB.out | apply below_alloc | apply pw_below_drewN | apply below_drew1) | exact HB.out))) : w.heap.size ≤ gb618)); have n3_ := Aside0.mk ((by rw [hg]; exact (below_size (by repeat (first | (with_reducible first | exact HB.out | apply below_alloc | apply pw_below_drewN | apply below_drew1) | exact HB.out))) : w.heap.size ≤ gb618)); clear HB; have HB := n0_; have BK618 := n1_; have GW618 := n2_; have GE618 := n3_; clear n0_ n1_ n2_ n3_; clear hb hbox hg))
  (try simp only [Act.put, List.setIfInBounds_toArray, List.set_cons_zero, List.set_cons_succ])
  go_cut [41] (fun v41 wc => ∃ (kq : Nat) (x41_2 : Bool), v41 = .bool x41_2 ∧ Aside0 (chicorylaw03_NumberBits.j0 kq l0 x41_2 a1_0 a1_1 = some true) ∧ Aside0 (kq ≤ k) ∧ Aside0 (wc.heap[gb618]? = some (.cells #[.int .i64 a1_0, .int .i64 a1_1] 63 (0, 0))) ∧ Aside0 (Below w.heap.size w wc))
  case first =>
    have H := HC3.out
    clear HC3
    replace H := Option.bind_eq_some_iff.mp H
    obtain ⟨t619, A50, H⟩ := H
    replace H : (if t619 = true then (if a1_0 < 0 then (chicorylaw03_NumberBits.j0 k l0 true a1_0 a1_1) else (if a1_0 > 500 then (chicorylaw03_NumberBits.j0 k l0 true a1_0 a1_1) else (if a1_1 < 0 then (chicorylaw03_NumberBits.j0 k l0 true a1_0 a1_1) else (chicorylaw03_NumberBits.j0 k l0 (decide (a1_1 > 500)) a1_0 a1_1)))) else (chicorylaw03_NumberBits.j0 k l0 true a1_0 a1_1)) = some true := H
    have A5 := Aside0.mk A50
    clear A50
    by_cases c6 : t619 = true
    · subst c6
      have H1 : (if a1_0 < 0 then (chicorylaw03_NumberBits.j0 k l0 true a1_0 a1_1) else (if a1_0 > 500 then (chicorylaw03_NumberBits.j0 k l0 true a1_0 a1_1) else (if a1_1 < 0 then (chicorylaw03_NumberBits.j0 k l0 true a1_0 a1_1) else (chicorylaw03_NumberBits.j0 k l0 (decide (a1_1 > 500)) a1_0 a1_1)))) = some true := by rw [if_pos rfl] at H; exact H
      clear H
      have H := H1
      clear H1
      by_cases c7 : a1_0 < 0
      · rw [if_pos c7] at H
        have c7b0 : decide (a1_0 < 0) = true := decide_eq_true c7
        clear c7
        (first | rw [c7b0] | (simp only [i64_w, i32_w]; rw [c7b0]) | skip)
        have H' := Aside0.mk H
        clear H
        go_wp2_with (first | ((with_reducible refine gate_callee (f := 39) rfl ?_); refine goesL_ (some 20) rfl rfl Try.func39 (by kernel_rfl) rfl #[.slice A0 l0.length c0] rfl (by (try simp only [List.map_toArray, List.map_cons, List.map_nil]); first | done | rfl | (simp only [List.length_drop, List.length_take]; rfl)) ?_; (with_reducible refine (chicorylaw03_few.calls _ _ l0 true _ ?side1 ?side2 A5.out).mono ?_); (case side1 => repeat (first | exact (Kd.C_below HR0.out HB.out) | (with_reducible refine Kd.C_alloc ?_ _) | (with_reducible refine Kd.C_drewN ?_ _) | (with_reducible refine Kd.C_drew ?_))); (case side2 => exact HC0.out); rintro e w' ⟨rfl, ⟨nd, rfl⟩⟩; refine ⟨_, rfl, ?_⟩; have hcz8_0 : w4.cell? ⟨gb618, 0, none⟩ = some (.int .i64 a1_0) := (blk_cell BK618.out 0).trans rfl; have hcz8_1 : w4.cell? ⟨gb618, 1, none⟩ = some (.int .i64 a1_1) := (blk_cell BK618.out 1).trans rfl; have hfz8_0 := blk_frozen BK618.out 0; have hfz8_1 := blk_frozen BK618.out 1))
        go_meet
        case rel => exact ⟨_, (true), (by first | rfl | (simp; done) | (simp [*]; done)), H', ⟨by first | omega | exact Nat.le_refl _⟩, ⟨by (with_reducible repeat (first | refine blk_drewN ?_ _ | refine blk_drew ?_ | refine blk_alloc ?_ _)); exact BK618.out⟩, ⟨by repeat (first | (with_reducible first | exact HB.out | apply below_alloc | apply pw_below_drewN | apply below_drew1 | refine below_set ?_ GE618.out) | exact HB.out)⟩⟩
      · rw [if_neg c7] at H
        have c7b0 : decide (a1_0 < 0) = false := decide_eq_false c7
        clear c7
        (first | rw [c7b0] | (simp only [i64_w, i32_w]; rw [c7b0]) | skip)
        by_cases c9 : a1_0 > 500
        · rw [if_pos c9] at H
          have c9b0 : decide (500 < a1_0) = true := decide_eq_true c9
          clear c9
          have H' := Aside0.mk H
          clear H
          go_wp2_with (first | ((with_reducible refine gate_callee (f := 39) rfl ?_); refine goesL_ (some 20) rfl rfl Try.func39 (by kernel_rfl) rfl #[.slice A0 l0.length c0] rfl (by (try simp only [List.map_toArray, List.map_cons, List.map_nil]); first | done | rfl | (simp only [List.length_drop, List.length_take]; rfl)) ?_; (with_reducible refine (chicorylaw03_few.calls _ _ l0 true _ ?side1 ?side2 A5.out).mono ?_); (case side1 => repeat (first | exact (Kd.C_below HR0.out HB.out) | (with_reducible refine Kd.C_alloc ?_ _) | (with_reducible refine Kd.C_drewN ?_ _) | (with_reducible refine Kd.C_drew ?_))); (case side2 => exact HC0.out); rintro e w' ⟨rfl, ⟨nd, rfl⟩⟩; refine ⟨_, rfl, ?_⟩; have hcz10_0 : w4.cell? ⟨gb618, 0, none⟩ = some (.int .i64 a1_0) := (blk_cell BK618.out 0).trans rfl; have hcz10_1 : w4.cell? ⟨gb618, 1, none⟩ = some (.int .i64 a1_1) := (blk_cell BK618.out 1).trans rfl; have hfz10_0 := blk_frozen BK618.out 0; have hfz10_1 := blk_frozen BK618.out 1))
          go_meet
          case rel => exact ⟨_, (true), (by first | rfl | (simp; done) | (simp [*]; done)), H', ⟨by first | omega | exact Nat.le_refl _⟩, ⟨by (with_reducible repeat (first | refine blk_drewN ?_ _ | refine blk_drew ?_ | refine blk_alloc ?_ _)); exact BK618.out⟩, ⟨by repeat (first | (with_reducible first | exact HB.out | apply below_alloc | apply pw_below_drewN | apply below_drew1 | refine below_set ?_ GE618.out) | exact HB.out)⟩⟩
        · rw [if_neg c9] at H
          have c9b0 : decide (500 < a1_0) = false := decide_eq_false c9
          clear c9
          by_cases c11 : a1_1 < 0
          · rw [if_pos c11] at H
            have c11b0 : decide (a1_1 < 0) = true := decide_eq_true c11
            clear c11
            have H' := Aside0.mk H
            clear H
            go_wp2_with (first | ((with_reducible refine gate_callee (f := 39) rfl ?_); refine goesL_ (some 20) rfl rfl Try.func39 (by kernel_rfl) rfl #[.slice A0 l0.length c0] rfl (by (try simp only [List.map_toArray, List.map_cons, List.map_nil]); first | done | rfl | (simp only [List.length_drop, List.length_take]; rfl)) ?_; (with_reducible refine (chicorylaw03_few.calls _ _ l0 true _ ?side1 ?side2 A5.out).mono ?_); (case side1 => repeat (first | exact (Kd.C_below HR0.out HB.out) | (with_reducible refine Kd.C_alloc ?_ _) | (with_reducible refine Kd.C_drewN ?_ _) | (with_reducible refine Kd.C_drew ?_))); (case side2 => exact HC0.out); rintro e w' ⟨rfl, ⟨nd, rfl⟩⟩; refine ⟨_, rfl, ?_⟩; have hcz12_0 : w4.cell? ⟨gb618, 0, none⟩ = some (.int .i64 a1_0) := (blk_cell BK618.out 0).trans rfl; have hcz12_1 : w4.cell? ⟨gb618, 1, none⟩ = some (.int .i64 a1_1) := (blk_cell BK618.out 1).trans rfl; have hfz12_0 := blk_frozen BK618.out 0; have hfz12_1 := blk_frozen BK618.out 1))
            go_meet
            case rel => exact ⟨_, (true), (by first | rfl | (simp; done) | (simp [*]; done)), H', ⟨by first | omega | exact Nat.le_refl _⟩, ⟨by (with_reducible repeat (first | refine blk_drewN ?_ _ | refine blk_drew ?_ | refine blk_alloc ?_ _)); exact BK618.out⟩, ⟨by repeat (first | (with_reducible first | exact HB.out | apply below_alloc | apply pw_below_drewN | apply below_drew1 | refine below_set ?_ GE618.out) | exact HB.out)⟩⟩
          · rw [if_neg c11] at H
            have c11b0 : decide (a1_1 < 0) = false := decide_eq_false c11
            clear c11
            have H' := Aside0.mk H
            clear H
            go_wp2_with (first | ((with_reducible refine gate_callee (f := 39) rfl ?_); refine goesL_ (some 20) rfl rfl Try.func39 (by kernel_rfl) rfl #[.slice A0 l0.length c0] rfl (by (try simp only [List.map_toArray, List.map_cons, List.map_nil]); first | done | rfl | (simp only [List.length_drop, List.length_take]; rfl)) ?_; (with_reducible refine (chicorylaw03_few.calls _ _ l0 true _ ?side1 ?side2 A5.out).mono ?_); (case side1 => repeat (first | exact (Kd.C_below HR0.out HB.out) | (with_reducible refine Kd.C_alloc ?_ _) | (with_reducible refine Kd.C_drewN ?_ _) | (with_reducible refine Kd.C_drew ?_))); (case side2 => exact HC0.out); rintro e w' ⟨rfl, ⟨nd, rfl⟩⟩; refine ⟨_, rfl, ?_⟩; have hcz13_0 : w4.cell? ⟨gb618, 0, none⟩ = some (.int .i64 a1_0) := (blk_cell BK618.out 0).trans rfl; have hcz13_1 : w4.cell? ⟨gb618, 1, none⟩ = some (.int .i64 a1_1) := (blk_cell BK618.out 1).trans rfl; have hfz13_0 := blk_frozen BK618.out 0; have hfz13_1 := blk_frozen BK618.out 1))
            go_meet
            case rel => exact ⟨_, (decide (a1_1 > 500)), (by first | rfl | (simp; done) | (simp [*]; done)), H', ⟨by first | omega | exact Nat.le_refl _⟩, ⟨by (with_reducible repeat (first | refine blk_drewN ?_ _ | refine blk_drew ?_ | refine blk_alloc ?_ _)); exact BK618.out⟩, ⟨by repeat (first | (with_reducible first | exact HB.out | apply below_alloc | apply pw_below_drewN | apply below_drew1 | refine below_set ?_ GE618.out) | exact HB.out)⟩⟩
    · replace c6 := Bool.eq_false_iff.mpr c6
      subst c6
      have H1 : (chicorylaw03_NumberBits.j0 k l0 true a1_0 a1_1) = some true := by rw [if_neg (show ¬ (false = true) by decide)] at H; exact H
      clear H
      have H := H1
      clear H1
      have H' := Aside0.mk H
      clear H
      go_wp2_with (first | ((with_reducible refine gate_callee (f := 39) rfl ?_); refine goesL_ (some 20) rfl rfl Try.func39 (by kernel_rfl) rfl #[.slice A0 l0.length c0] rfl (by (try simp only [List.map_toArray, List.map_cons, List.map_nil]); first | done | rfl | (simp only [List.length_drop, List.length_take]; rfl)) ?_; (with_reducible refine (chicorylaw03_few.calls _ _ l0 false _ ?side1 ?side2 A5.out).mono ?_); (case side1 => repeat (first | exact (Kd.C_below HR0.out HB.out) | (with_reducible refine Kd.C_alloc ?_ _) | (with_reducible refine Kd.C_drewN ?_ _) | (with_reducible refine Kd.C_drew ?_))); (case side2 => exact HC0.out); rintro e w' ⟨rfl, ⟨nd, rfl⟩⟩; refine ⟨_, rfl, ?_⟩))
      go_meet
      case rel => exact ⟨_, (true), (by first | rfl | (simp; done) | (simp [*]; done)), H', ⟨by first | omega | exact Nat.le_refl _⟩, ⟨by (with_reducible repeat (first | refine blk_drewN ?_ _ | refine blk_drew ?_ | refine blk_alloc ?_ _)); exact BK618.out⟩, ⟨by repeat (first | (with_reducible first | exact HB.out | apply below_alloc | apply pw_below_drewN | apply below_drew1 | refine below_set ?_ GE618.out) | exact HB.out)⟩⟩
  case rest =>
    clear HC3
    try clear c1
    try clear p2
    try clear c3
    try clear c6
    try clear c7
    try clear c7b0
    try clear c9
    try clear c9b0
    try clear c11
    try clear c11b0
    try clear hcz10_0
    try clear hcz10_1
    try clear hcz12_0
    try clear hcz12_1
    try clear hcz13_0
    try clear hcz13_1
    try clear hcz8_0
    try clear hcz8_1
    try clear hfz10_0
    try clear hfz10_1
    try clear hfz12_0
    try clear hfz12_1
    try clear hfz13_0
    try clear hfz13_1
    try clear hfz8_0
    try clear hfz8_1
    obtain ⟨kq, x41_2, rfl, HA, HJ2, BK618, HB⟩ := hcut
    cases kq with
    | zero => exact absurd HA.out (by simp [chicorylaw03_NumberBits.j0])
    | succ kj2 =>
      have H := HA.out
      clear HA
      simp only [chicorylaw03_NumberBits.j0] at H
      by_cases c14 : x41_2 = true
      · subst c14
        have H1 : ((chicorylaw03_awake.f kj2).bind fun t620 => (some t620)) = some true := by rw [if_pos rfl] at H; exact H
        clear H
        have H := H1
        clear H1
        replace H := Option.bind_eq_some_iff.mp H
        obtain ⟨t620, A150, H⟩ := H
        replace H : (some t620) = some true := H
        have A15 := Aside0.mk A150
        clear A150
        obtain rfl := Option.some.inj H
        go_wp2_with (first | ((with_reducible refine gate_callee (f := 40) rfl ?_); refine goesL_ (some 42) rfl rfl Try.func40 (by kernel_rfl) rfl #[] rfl (by (try simp only [List.map_toArray, List.map_cons, List.map_nil]); first | done | rfl | (simp only [List.length_drop, List.length_take]; rfl)) ?_; (with_reducible refine (chicorylaw03_awake.calls kj2  true _ A15.out).mono ?_); rintro e w16 ⟨rfl, hb⟩; refine ⟨_, rfl, ?_⟩; have n0_ := Aside0.mk (blk_below (g := gb618) (o := .cells #[.int .i64 a1_0, .int .i64 a1_1] 63 (0, 0)) (by (with_reducible repeat (first | refine blk_drewN ?_ _ | refine blk_drew ?_ | refine blk_alloc ?_ _)); exact BK618.out) hb); have n1_ := Aside0.mk (below_step (by repeat (first | (with_reducible first | exact HB.out | apply below_alloc | apply pw_below_drewN | apply below_drew1 | refine below_set ?_ GE618.out) | exact HB.out)) hb); clear BK618; clear HB; have BK618 := n0_; have HB := n1_; clear n0_ n1_; (try clear hb); (try clear hb2); (try clear hk); (try clear hi)))
        go_ret
        exact ⟨by first | rfl | (simp [errW_none, errW_some] <;> rfl) | (simp [*, errW_none, errW_some] <;> rfl), by repeat (first | (with_reducible first | exact HB.out | apply below_alloc | apply pw_below_drewN | apply below_drew1 | refine below_set ?_ GE618.out) | exact HB.out)⟩
      · replace c14 := Bool.eq_false_iff.mpr c14
        subst c14
        have H1 : ((number_Len.f kj2 l0).bind fun t621 => (chicorylaw03_NumberBits.l0 kj2 l0 ([] : List Int) (wrap64 (t621 - 1)) a1_0 a1_1)) = some true := by rw [if_neg (show ¬ (false = true) by decide)] at H; exact H
        clear H
        have H := H1
        clear H1
        replace H := Option.bind_eq_some_iff.mp H
        obtain ⟨t621, A170, H⟩ := H
        replace H : (chicorylaw03_NumberBits.l0 kj2 l0 ([] : List Int) (wrap64 (t621 - 1)) a1_0 a1_1) = some true := H
        have A17 := Aside0.mk A170
        clear A170
        have H' := Aside0.mk H
        clear H
        go_wp2_with (first | ((with_reducible refine gate_callee (f := 44) rfl ?_); refine goesL_ (some 44) rfl rfl Try.func44 (by kernel_rfl) rfl #[.slice A0 l0.length c0] rfl (by (try simp only [List.map_toArray, List.map_cons, List.map_nil]); first | done | rfl | (simp only [List.length_drop, List.length_take]; rfl)) ?_; (with_reducible refine (number_Len.calls kj2 _ _ l0 t621 _ ?side1 ?side2 A17.out).mono ?_); (case side1 => repeat (first | exact (Kd.C_below HR0.out HB.out) | (with_reducible refine Kd.C_alloc ?_ _) | (with_reducible refine Kd.C_drewN ?_ _) | (with_reducible refine Kd.C_drew ?_))); (case side2 => exact HC0.out); rintro e w18 ⟨rfl, hb⟩; refine ⟨_, rfl, ?_⟩; have n0_ := Aside0.mk (blk_below (g := gb618) (o := .cells #[.int .i64 a1_0, .int .i64 a1_1] 63 (0, 0)) (by (with_reducible repeat (first | refine blk_drewN ?_ _ | refine blk_drew ?_ | refine blk_alloc ?_ _)); exact BK618.out) hb); have n1_ := Aside0.mk (below_step (by repeat (first | (with_reducible first | exact HB.out | apply below_alloc | apply pw_below_drewN | apply below_drew1 | refine below_set ?_ GE618.out) | exact HB.out)) hb); clear BK618; clear HB; have BK618 := n0_; have HB := n1_; clear n0_ n1_; (try clear hb); (try clear hb2); (try clear hk); (try clear hi)))
        go_loopg [5, 6] kj2 (fun kq v5 v6 w' => ∃ (x5_2 : List Int) (x6_2 : Int), v6 = .int .i64 x6_2 ∧ Aside0 (chicorylaw03_NumberBits.l0 kq l0 x5_2 x6_2 a1_0 a1_1 = some true) ∧ Aside0 (kq ≤ kj2) ∧ Aside0 (Kd.V (Kd.int .u64) 62 w' w.heap.size (fun k_ => k_ ≠ gb618) v5 x5_2) ∧ Aside0 (w'.heap[gb618]? = some (.cells #[.int .i64 a1_0, .int .i64 a1_1] 63 (0, 0))) ∧ Aside0 (Below w.heap.size w w'))
        case atStart => exact ⟨(([] : List Int)), (wrap64 (t621 - 1)), (by first | rfl | (simp; done) | (simp [*]; done)), H', ⟨Nat.le_refl _⟩, ⟨Kd.V_nil _ _ _ _ _⟩, ⟨by (with_reducible repeat (first | refine blk_drewN ?_ _ | refine blk_drew ?_ | refine blk_alloc ?_ _)); exact BK618.out⟩, ⟨by repeat (first | (with_reducible first | exact HB.out | apply below_alloc | apply pw_below_drewN | apply below_drew1 | refine below_set ?_ GE618.out) | exact HB.out)⟩⟩
        case round =>
          clear H'
          try clear c1
          try clear p2
          try clear c3
          try clear c4
          try clear c6
          try clear p6
          try clear c7
          try clear c7b0
          try clear c9
          try clear c9b0
          try clear c11
          try clear c11b0
          try clear c14
          try clear hcz10_0
          try clear hcz10_1
          try clear hcz12_0
          try clear hcz12_1
          try clear hcz13_0
          try clear hcz13_1
          try clear hcz8_0
          try clear hcz8_1
          try clear hfz10_0
          try clear hfz10_1
          try clear hfz12_0
          try clear hfz12_1
          try clear hfz13_0
          try clear hfz13_1
          try clear hfz8_0
          try clear hfz8_1
          try clear p2
          obtain ⟨x5_2, x6_2, rfl, HA, HK2, HO_5, BK618, HB⟩ := hrel
          cases gk with
          | zero => exact absurd HA.out (by simp [chicorylaw03_NumberBits.l0])
          | succ k2 =>
            have H := HA.out
            clear HA
            simp only [chicorylaw03_NumberBits.l0] at H
            by_cases c19 : x6_2 ≥ 0
            · rw [if_pos c19] at H
              have c19b0 : decide (0 ≤ x6_2) = true := decide_eq_true c19
              clear c19
              replace H := Option.bind_eq_some_iff.mp H
              obtain ⟨t622, A200, H⟩ := H
              replace H : ((number_Bit.f l0 x6_2).bind fun t625 => ((number_Add.f k2 t622 (([IntKind.u64.wrap (t625)] : List Int))).bind fun t629 => (chicorylaw03_NumberBits.l0 k2 l0 t629 (wrap64 (x6_2 - 1)) a1_0 a1_1))) = some true := H
              have A20 := Aside0.mk A200
              clear A200
              replace H := Option.bind_eq_some_iff.mp H
              obtain ⟨t625, A210, H⟩ := H
              replace H : ((number_Add.f k2 t622 (([IntKind.u64.wrap (t625)] : List Int))).bind fun t629 => (chicorylaw03_NumberBits.l0 k2 l0 t629 (wrap64 (x6_2 - 1)) a1_0 a1_1)) = some true := H
              have A21 := Aside0.mk A210
              clear A210
              obtain ⟨y626, hy626⟩ : ∃ y_ : List Int, y_ = (([IntKind.u64.wrap (t625)] : List Int)) := ⟨_, rfl⟩
              replace H : ((number_Add.f k2 t622 y626).bind fun t629 => (chicorylaw03_NumberBits.l0 k2 l0 t629 (wrap64 (x6_2 - 1)) a1_0 a1_1)) = some true := by first | (rw [hy626]; with_reducible exact H) | (have H2_ := (Option.bind_some _ _).symm.trans H; rw [hy626]; with_reducible exact H2_) | (have H2_ := (Option.bind_some _ _).symm.trans H; with_reducible exact H2_) | with_reducible exact H | (rw [hy626]; exact H) | exact H
              have Ny626 := Aside0.mk hy626
              clear hy626
              replace H := Option.bind_eq_some_iff.mp H
              obtain ⟨t629, A220, H⟩ := H
              replace H : (chicorylaw03_NumberBits.l0 k2 l0 t629 (wrap64 (x6_2 - 1)) a1_0 a1_1) = some true := H
              have A22 := Aside0.mk A220
              clear A220
              have H' := Aside0.mk H
              clear H
              obtain ⟨Ao23, co23, eo23⟩ := Kd.V_slice HO_5.out
              subst eo23
              go_wp2_with (first | ((with_reducible refine gate_callee (f := 48) rfl ?_); refine goesL_ (some 52) rfl rfl Try.func48 (by kernel_rfl) rfl #[.slice Ao23 x5_2.length co23, .slice Ao23 x5_2.length co23] rfl (by (try simp only [List.map_toArray, List.map_cons, List.map_nil]); first | done | rfl | (simp only [List.length_drop, List.length_take]; rfl)) ?_; (with_reducible refine (number_Add.calls k2 _ _ x5_2 _ _ x5_2 t622 _ ?side1 ?side2 ?side3 ?side4 A20.out).mono ?_); (case side1 => repeat (first | exact (Kd.V_reads' HO_5.out).2.2 | (with_reducible refine Kd.C_alloc ?_ _) | (with_reducible refine Kd.C_drewN ?_ _) | (with_reducible refine Kd.C_drew ?_))); (case side2 => exact (Kd.V_reads' HO_5.out).2.1); (case side3 => repeat (first | exact (Kd.V_reads' HO_5.out).2.2 | (with_reducible refine Kd.C_alloc ?_ _) | (with_reducible refine Kd.C_drewN ?_ _) | (with_reducible refine Kd.C_drew ?_))); (case side4 => exact (Kd.V_reads' HO_5.out).2.1); rintro e w24 ⟨v623, rfl, ho0, hb⟩; refine ⟨_, rfl, ?_⟩; have n0_ := Aside0.mk (Kd.V_below (by (with_reducible repeat (first | apply Kd.V_alloc | apply Kd.V_drewN | apply Kd.V_drew)); exact HO_5.out) hb); have n1_ := Aside0.mk (Kd.V_lower (Kd.V_mono (ok' := fun k_ => k_ ≠ gb618) ho0 (fun k_ hk_ => (Kd.freshB (g := gb618) (o := .cells #[.int .i64 a1_0, .int .i64 a1_1] 63 (0, 0)) (by (with_reducible repeat (first | refine blk_drewN ?_ _ | refine blk_drew ?_ | refine blk_alloc ?_ _)); exact BK618.out) k_ hk_))) (below_size (by repeat (first | (with_reducible first | exact HB.out | apply below_alloc | apply pw_below_drewN | apply below_drew1 | refine below_set ?_ GE618.out) | exact HB.out)))); have n2_ := Aside0.mk (blk_below (g := gb618) (o := .cells #[.int .i64 a1_0, .int .i64 a1_1] 63 (0, 0)) (by (with_reducible repeat (first | refine blk_drewN ?_ _ | refine blk_drew ?_ | refine blk_alloc ?_ _)); exact BK618.out) hb); have n3_ := Aside0.mk (below_step (by repeat (first | (with_reducible first | exact HB.out | apply below_alloc | apply pw_below_drewN | apply below_drew1 | refine below_set ?_ GE618.out) | exact HB.out)) hb); clear HO_5; clear BK618; clear HB; have HO_5 := n0_; have HO624 := n1_; have BK618 := n2_; have HB := n3_; clear n0_ n1_ n2_ n3_; (try clear hb); (try clear hb2); (try clear hk); (try clear hi); (try clear ho0)) | ((with_reducible refine gate_callee (f := 37) rfl ?_); refine goesL_ (some 55) rfl rfl Try.func37 (by kernel_rfl) rfl #[.slice A0 l0.length c0, .int .i64 x6_2] rfl (by (try simp only [List.map_toArray, List.map_cons, List.map_nil]); first | done | rfl | (simp only [List.length_drop, List.length_take]; rfl)) ?_; (with_reducible refine (number_Bit.calls _ _ l0 x6_2 t625 _ ?side1 ?side2 A21.out).mono ?_); (case side1 => repeat (first | exact (Kd.C_below HR0.out HB.out) | (with_reducible refine Kd.C_alloc ?_ _) | (with_reducible refine Kd.C_drewN ?_ _) | (with_reducible refine Kd.C_drew ?_))); (case side2 => exact HC0.out); rintro e w' ⟨rfl, ⟨nd, rfl⟩⟩; refine ⟨_, rfl, ?_⟩) | ((with_reducible refine gate_dst (N := 57) rfl ?_); refine Kd.R_lit (Kd.int .u64) _ 62 ?hg (N := 57) ?hd (xs := ([IntKind.u64.wrap (t625)] : List Int)) (inner := [.int .u64 (IntKind.u64.wrap (t625))]) (ok := fun _ => True) (okp := fun _ => True) ?hr ?hp (fun _ hk => hk) trivial (Below.refl _ _) (Nat.le_refl _) (by simp) ?_; (case hd => rfl); (case hg => rfl); (case hr => first | (go_simp; done) | (go_simp; rfl)); (case hp => exact (Reps.one (show Kd.M (Kd.int .u64) _ _ _ (IntKind.u64.wrap (t625)) [.int .u64 (IntKind.u64.wrap (t625))] from rfl) (Reps.none _ _))); intro v627 w25 ho26 hb hg_ hnew_; clear hg_ hnew_; (first | rw [← Ny626.out] at ho26 | (simp only [Int.reduceToNat] at ho26; rw [← Ny626.out] at ho26)); have n0_ := Aside0.mk (Kd.V_elder' (by (with_reducible repeat (first | apply Kd.V_alloc | apply Kd.V_drewN | apply Kd.V_drew)); exact HO_5.out) (Kd.R_base ho26) hb); have n1_ := Aside0.mk (Kd.V_elder' (by (with_reducible repeat (first | apply Kd.V_alloc | apply Kd.V_drewN | apply Kd.V_drew)); exact HO624.out) (Kd.R_base ho26) hb); have n2_ := Aside0.mk (Kd.R_lower ho26 (below_size (by repeat (first | (with_reducible first | exact HB.out | apply below_alloc | apply pw_below_drewN | apply below_drew1 | refine below_set ?_ GE618.out) | exact HB.out)))); have n3_ := Aside0.mk (blk_below (g := gb618) (o := .cells #[.int .i64 a1_0, .int .i64 a1_1] 63 (0, 0)) (by (with_reducible repeat (first | refine blk_drewN ?_ _ | refine blk_drew ?_ | refine blk_alloc ?_ _)); exact BK618.out) hb); have n4_ := Aside0.mk (below_step (by repeat (first | (with_reducible first | exact HB.out | apply below_alloc | apply pw_below_drewN | apply below_drew1 | refine below_set ?_ GE618.out) | exact HB.out)) hb); clear HO_5; clear HO624; clear BK618; clear HB; have HO_5 := n0_; have HO624 := n1_; have HO628 := n2_; have BK618 := n3_; have HB := n4_; clear n0_ n1_ n2_ n3_ n4_; clear hb ho26; obtain ⟨Ao27, co27, eo27⟩ := Kd.V_slice HO624.out; subst eo27; obtain ⟨Ao28, co28, eo28⟩ := Kd.R_slice HO628.out; subst eo28) | ((with_reducible refine gate_callee (f := 48) rfl ?_); refine goesL_ (some 58) rfl rfl Try.func48 (by kernel_rfl) rfl #[.slice Ao27 t622.length co27, .slice Ao28 y626.length co28] rfl (by (try simp only [List.map_toArray, List.map_cons, List.map_nil]); first | done | rfl | (simp only [List.length_drop, List.length_take]; rfl)) ?_; (with_reducible refine (number_Add.calls k2 _ _ t622 _ _ y626 t629 _ ?side1 ?side2 ?side3 ?side4 A22.out).mono ?_); (case side1 => repeat (first | exact (Kd.V_reads' HO624.out).2.2 | (with_reducible refine Kd.C_alloc ?_ _) | (with_reducible refine Kd.C_drewN ?_ _) | (with_reducible refine Kd.C_drew ?_))); (case side2 => exact (Kd.V_reads' HO624.out).2.1); (case side3 => repeat (first | exact (Kd.R_reads' HO628.out).2.2 | (with_reducible refine Kd.C_alloc ?_ _) | (with_reducible refine Kd.C_drewN ?_ _) | (with_reducible refine Kd.C_drew ?_))); (case side4 => exact (Kd.R_reads' HO628.out).2.1); rintro e w29 ⟨v630, rfl, ho0, hb⟩; refine ⟨_, rfl, ?_⟩; have n0_ := Aside0.mk (Kd.V_below (by (with_reducible repeat (first | apply Kd.V_alloc | apply Kd.V_drewN | apply Kd.V_drew)); exact HO_5.out) hb); have n1_ := Aside0.mk (Kd.V_below (by (with_reducible repeat (first | apply Kd.V_alloc | apply Kd.V_drewN | apply Kd.V_drew)); exact HO624.out) hb); have n2_ := Aside0.mk (Kd.R_below (by (with_reducible repeat (first | apply Kd.R_alloc | apply Kd.R_drewN | apply Kd.R_drew)); exact HO628.out) hb); have n3_ := Aside0.mk (Kd.V_lower (Kd.V_mono (ok' := fun k_ => some k_ ≠ (.slice Ao28 y626.length co28 : Value).ownBlock ∧ k_ ≠ gb618) ho0 (fun k_ hk_ => ⟨(Kd.fresh' (Kd.R_lt (by (with_reducible repeat (first | apply Kd.R_alloc | apply Kd.R_drewN | apply Kd.R_drew)); exact HO628.out)) k_ hk_), (Kd.freshB (g := gb618) (o := .cells #[.int .i64 a1_0, .int .i64 a1_1] 63 (0, 0)) (by (with_reducible repeat (first | refine blk_drewN ?_ _ | refine blk_drew ?_ | refine blk_alloc ?_ _)); exact BK618.out) k_ hk_)⟩)) (below_size (by repeat (first | (with_reducible first | exact HB.out | apply below_alloc | apply pw_below_drewN | apply below_drew1 | refine below_set ?_ GE618.out) | exact HB.out)))); have n4_ := Aside0.mk (blk_below (g := gb618) (o := .cells #[.int .i64 a1_0, .int .i64 a1_1] 63 (0, 0)) (by (with_reducible repeat (first | refine blk_drewN ?_ _ | refine blk_drew ?_ | refine blk_alloc ?_ _)); exact BK618.out) hb); have n5_ := Aside0.mk (below_step (by repeat (first | (with_reducible first | exact HB.out | apply below_alloc | apply pw_below_drewN | apply below_drew1 | refine below_set ?_ GE618.out) | exact HB.out)) hb); clear HO_5; clear HO624; clear HO628; clear BK618; clear HB; have HO_5 := n0_; have HO624 := n1_; have HO628 := n2_; have HO631 := n3_; have BK618 := n4_; have HB := n5_; clear n0_ n1_ n2_ n3_ n4_ n5_; (try clear hb); (try clear hb2); (try clear hk); (try clear hi); (try clear ho0)))
              go_roundg k2
              case measure => have := HJ2.out; have := HK2.out; omega
              case rel => exact ⟨(t629), (wrap64 (x6_2 - 1)), (by first | rfl | (simp; done) | (simp [*]; done)), H', ⟨by have := HJ2.out; have := HK2.out; omega⟩, ⟨by (with_reducible repeat (first | apply Kd.V_alloc | apply Kd.V_drewN | apply Kd.V_drew)); exact Kd.V_mono HO631.out (fun _ hk => hk.2)⟩, ⟨by (with_reducible repeat (first | refine blk_drewN ?_ _ | refine blk_drew ?_ | refine blk_alloc ?_ _)); exact BK618.out⟩, ⟨by repeat (first | (with_reducible first | exact HB.out | apply below_alloc | apply pw_below_drewN | apply below_drew1 | refine below_set ?_ GE618.out) | exact HB.out)⟩⟩
            · rw [if_neg c19] at H
              have c19b0 : decide (0 ≤ x6_2) = false := decide_eq_false c19
              clear c19
              have HC30 := Aside0.mk H
              clear H
              go_upto_region 8 with (fail)
              go_cut [82] (fun v82 wc => ∃ (kq : Nat) (x82_29 : Bool), v82 = .bool x82_29 ∧ Aside0 (chicorylaw03_NumberBits.j2 kq l0 x82_29 a1_0 a1_1 = some true) ∧ Aside0 (kq ≤ k2) ∧ Aside0 (wc.heap[gb618]? = some (.cells #[.int .i64 a1_0, .int .i64 a1_1] 63 (0, 0))) ∧ Aside0 (Below w.heap.size w wc))
              case first =>
                have H := HC30.out
                clear HC30
                replace H := Option.bind_eq_some_iff.mp H
                obtain ⟨t632, A310, H⟩ := H
                replace H : (if t632 = 0 then ((number_Len.f k2 l0).bind fun t633 => ((number_Bit.f l0 t633).bind fun t634 => (if t634 = 0 then ((number_Len.f k2 l0).bind fun t635 => (if t635 > 0 then ((number_Len.f k2 l0).bind fun t636 => ((number_Bit.f l0 (wrap64 (t636 - 1))).bind fun t637 => (chicorylaw03_NumberBits.j2 k2 l0 (t637 != 1) a1_0 a1_1))) else (chicorylaw03_NumberBits.j2 k2 l0 false a1_0 a1_1))) else (chicorylaw03_NumberBits.j2 k2 l0 true a1_0 a1_1)))) else (chicorylaw03_NumberBits.j2 k2 l0 true a1_0 a1_1)) = some true := H
                have A31 := Aside0.mk A310
                clear A310
                by_cases c32 : t632 = 0
                · rw [if_pos c32] at H
                  have c32b0 : (t632 == 0) = true := beq_iff_eq.mpr c32
                  have c32b1 : (t632 != 0) = false := bne_eq_false_iff_eq.mpr c32
                  clear c32
                  (first | rw [c32b0] | (simp only [i64_w, i32_w]; rw [c32b0]) | skip)
                  replace H := Option.bind_eq_some_iff.mp H
                  obtain ⟨t633, A330, H⟩ := H
                  replace H : ((number_Bit.f l0 t633).bind fun t634 => (if t634 = 0 then ((number_Len.f k2 l0).bind fun t635 => (if t635 > 0 then ((number_Len.f k2 l0).bind fun t636 => ((number_Bit.f l0 (wrap64 (t636 - 1))).bind fun t637 => (chicorylaw03_NumberBits.j2 k2 l0 (t637 != 1) a1_0 a1_1))) else (chicorylaw03_NumberBits.j2 k2 l0 false a1_0 a1_1))) else (chicorylaw03_NumberBits.j2 k2 l0 true a1_0 a1_1))) = some true := H
                  have A33 := Aside0.mk A330
                  clear A330
                  replace H := Option.bind_eq_some_iff.mp H
                  obtain ⟨t634, A340, H⟩ := H
                  replace H : (if t634 = 0 then ((number_Len.f k2 l0).bind fun t635 => (if t635 > 0 then ((number_Len.f k2 l0).bind fun t636 => ((number_Bit.f l0 (wrap64 (t636 - 1))).bind fun t637 => (chicorylaw03_NumberBits.j2 k2 l0 (t637 != 1) a1_0 a1_1))) else (chicorylaw03_NumberBits.j2 k2 l0 false a1_0 a1_1))) else (chicorylaw03_NumberBits.j2 k2 l0 true a1_0 a1_1)) = some true := H
                  have A34 := Aside0.mk A340
                  clear A340
                  by_cases c35 : t634 = 0
                  · rw [if_pos c35] at H
                    have c35b0 : (t634 == 0) = true := beq_iff_eq.mpr c35
                    have c35b1 : (t634 != 0) = false := bne_eq_false_iff_eq.mpr c35
                    clear c35
                    replace H := Option.bind_eq_some_iff.mp H
                    obtain ⟨t635, A360, H⟩ := H
                    obtain rfl : t633 = t635 := Option.some.inj (A33.out.symm.trans A360)
                    replace H : (if t633 > 0 then ((number_Len.f k2 l0).bind fun t636 => ((number_Bit.f l0 (wrap64 (t636 - 1))).bind fun t637 => (chicorylaw03_NumberBits.j2 k2 l0 (t637 != 1) a1_0 a1_1))) else (chicorylaw03_NumberBits.j2 k2 l0 false a1_0 a1_1)) = some true := H
                    have A36 := Aside0.mk A360
                    clear A360
                    by_cases c37 : t633 > 0
                    · rw [if_pos c37] at H
                      have c37b0 : decide (0 < t633) = true := decide_eq_true c37
                      clear c37
                      replace H := Option.bind_eq_some_iff.mp H
                      obtain ⟨t636, A380, H⟩ := H
                      obtain rfl : t633 = t636 := Option.some.inj (A33.out.symm.trans A380)
                      replace H : ((number_Bit.f l0 (wrap64 (t633 - 1))).bind fun t637 => (chicorylaw03_NumberBits.j2 k2 l0 (t637 != 1) a1_0 a1_1)) = some true := H
                      have A38 := Aside0.mk A380
                      clear A380
                      replace H := Option.bind_eq_some_iff.mp H
                      obtain ⟨t637, A390, H⟩ := H
                      replace H : (chicorylaw03_NumberBits.j2 k2 l0 (t637 != 1) a1_0 a1_1) = some true := H
                      have A39 := Aside0.mk A390
                      clear A390
                      have H' := Aside0.mk H
                      clear H
                      obtain ⟨Ao40, co40, eo40⟩ := Kd.V_slice HO_5.out
                      subst eo40
                      go_wp2_with (first | ((with_reducible refine gate_callee (f := 42) rfl ?_); refine goesL_ (some 61) rfl rfl Try.func42 (by kernel_rfl) rfl #[.slice Ao40 x5_2.length co40, .slice A0 l0.length c0] rfl (by (try simp only [List.map_toArray, List.map_cons, List.map_nil]); first | done | rfl | (simp only [List.length_drop, List.length_take]; rfl)) ?_; (with_reducible refine (number_Compare.calls k2 _ _ x5_2 _ _ l0 t632 _ ?side1 ?side2 ?side3 ?side4 A31.out).mono ?_); (case side1 => repeat (first | exact (Kd.V_reads' HO_5.out).2.2 | (with_reducible refine Kd.C_alloc ?_ _) | (with_reducible refine Kd.C_drewN ?_ _) | (with_reducible refine Kd.C_drew ?_))); (case side2 => exact (Kd.V_reads' HO_5.out).2.1); (case side3 => repeat (first | exact (Kd.C_below HR0.out HB.out) | (with_reducible refine Kd.C_alloc ?_ _) | (with_reducible refine Kd.C_drewN ?_ _) | (with_reducible refine Kd.C_drew ?_))); (case side4 => exact HC0.out); rintro e w41 ⟨rfl, hb⟩; refine ⟨_, rfl, ?_⟩; have n0_ := Aside0.mk (Kd.V_below (by (with_reducible repeat (first | apply Kd.V_alloc | apply Kd.V_drewN | apply Kd.V_drew)); exact HO_5.out) hb); have n1_ := Aside0.mk (blk_below (g := gb618) (o := .cells #[.int .i64 a1_0, .int .i64 a1_1] 63 (0, 0)) (by (with_reducible repeat (first | refine blk_drewN ?_ _ | refine blk_drew ?_ | refine blk_alloc ?_ _)); exact BK618.out) hb); have n2_ := Aside0.mk (below_step (by repeat (first | (with_reducible first | exact HB.out | apply below_alloc | apply pw_below_drewN | apply below_drew1 | refine below_set ?_ GE618.out) | exact HB.out)) hb); clear HO_5; clear BK618; clear HB; have HO_5 := n0_; have BK618 := n1_; have HB := n2_; clear n0_ n1_ n2_; (try clear hb); (try clear hb2); (try clear hk); (try clear hi)) | (go_at_call 44; (with_reducible refine (number_Len.calls k2 _ _ l0 t633 _ ?side1 ?side2 A33.out).mono ?_); (case side1 => repeat (first | exact (Kd.C_below HR0.out HB.out) | (with_reducible refine Kd.C_alloc ?_ _) | (with_reducible refine Kd.C_drewN ?_ _) | (with_reducible refine Kd.C_drew ?_))); (case side2 => exact HC0.out); rintro e w42 ⟨rfl, hb⟩; have n0_ := Aside0.mk (Kd.V_below (by (with_reducible repeat (first | apply Kd.V_alloc | apply Kd.V_drewN | apply Kd.V_drew)); exact HO_5.out) hb); have n1_ := Aside0.mk (blk_below (g := gb618) (o := .cells #[.int .i64 a1_0, .int .i64 a1_1] 63 (0, 0)) (by (with_reducible repeat (first | refine blk_drewN ?_ _ | refine blk_drew ?_ | refine blk_alloc ?_ _)); exact BK618.out) hb); have n2_ := Aside0.mk (below_step (by repeat (first | (with_reducible first | exact HB.out | apply below_alloc | apply pw_below_drewN | apply below_drew1 | refine below_set ?_ GE618.out) | exact HB.out)) hb); clear HO_5; clear BK618; clear HB; have HO_5 := n0_; have BK618 := n1_; have HB := n2_; clear n0_ n1_ n2_; (try clear hb); (try clear hb2); (try clear hk); (try clear hi)) | (go_at_call 37; (with_reducible refine (number_Bit.calls _ _ l0 t633 t634 _ ?side1 ?side2 A34.out).mono ?_); (case side1 => repeat (first | exact (Kd.C_below HR0.out HB.out) | (with_reducible refine Kd.C_alloc ?_ _) | (with_reducible refine Kd.C_drewN ?_ _) | (with_reducible refine Kd.C_drew ?_))); (case side2 => exact HC0.out); rintro e w' ⟨rfl, ⟨nd, rfl⟩⟩) | (go_at_call 44; (with_reducible refine (number_Len.calls k2 _ _ l0 t633 _ ?side1 ?side2 A36.out).mono ?_); (case side1 => repeat (first | exact (Kd.C_below HR0.out (by repeat (first | (with_reducible first | exact HB.out | apply below_alloc | apply pw_below_drewN | apply below_drew1 | refine below_set ?_ GE618.out) | exact HB.out))) | (with_reducible refine Kd.C_alloc ?_ _) | (with_reducible refine Kd.C_drewN ?_ _) | (with_reducible refine Kd.C_drew ?_))); (case side2 => exact HC0.out); rintro e w43 ⟨rfl, hb⟩; have n0_ := Aside0.mk (Kd.V_below (by (with_reducible repeat (first | apply Kd.V_alloc | apply Kd.V_drewN | apply Kd.V_drew)); exact HO_5.out) hb); have n1_ := Aside0.mk (blk_below (g := gb618) (o := .cells #[.int .i64 a1_0, .int .i64 a1_1] 63 (0, 0)) (by (with_reducible repeat (first | refine blk_drewN ?_ _ | refine blk_drew ?_ | refine blk_alloc ?_ _)); exact BK618.out) hb); have n2_ := Aside0.mk (below_step (by repeat (first | (with_reducible first | exact HB.out | apply below_alloc | apply pw_below_drewN | apply below_drew1 | refine below_set ?_ GE618.out) | exact HB.out)) hb); clear HO_5; clear BK618; clear HB; have HO_5 := n0_; have BK618 := n1_; have HB := n2_; clear n0_ n1_ n2_; (try clear hb); (try clear hb2); (try clear hk); (try clear hi)) | (go_at_call 44; (with_reducible refine (number_Len.calls k2 _ _ l0 t633 _ ?side1 ?side2 A38.out).mono ?_); (case side1 => repeat (first | exact (Kd.C_below HR0.out HB.out) | (with_reducible refine Kd.C_alloc ?_ _) | (with_reducible refine Kd.C_drewN ?_ _) | (with_reducible refine Kd.C_drew ?_))); (case side2 => exact HC0.out); rintro e w44 ⟨rfl, hb⟩; have n0_ := Aside0.mk (Kd.V_below (by (with_reducible repeat (first | apply Kd.V_alloc | apply Kd.V_drewN | apply Kd.V_drew)); exact HO_5.out) hb); have n1_ := Aside0.mk (blk_below (g := gb618) (o := .cells #[.int .i64 a1_0, .int .i64 a1_1] 63 (0, 0)) (by (with_reducible repeat (first | refine blk_drewN ?_ _ | refine blk_drew ?_ | refine blk_alloc ?_ _)); exact BK618.out) hb); have n2_ := Aside0.mk (below_step (by repeat (first | (with_reducible first | exact HB.out | apply below_alloc | apply pw_below_drewN | apply below_drew1 | refine below_set ?_ GE618.out) | exact HB.out)) hb); clear HO_5; clear BK618; clear HB; have HO_5 := n0_; have BK618 := n1_; have HB := n2_; clear n0_ n1_ n2_; (try clear hb); (try clear hb2); (try clear hk); (try clear hi)) | (go_at_call 37; (with_reducible refine (number_Bit.calls _ _ l0 (wrap64 (t633 - 1)) t637 _ ?side1 ?side2 A39.out).mono ?_); (case side1 => repeat (first | exact (Kd.C_below HR0.out HB.out) | (with_reducible refine Kd.C_alloc ?_ _) | (with_reducible refine Kd.C_drewN ?_ _) | (with_reducible refine Kd.C_drew ?_))); (case side2 => exact HC0.out); rintro e w' ⟨rfl, ⟨nd, rfl⟩⟩))
                      go_meet
                      case rel => exact ⟨_, ((t637 != 1)), (by first | rfl | (simp; done) | (simp [*]; done)), H', ⟨by have := HJ2.out; have := HK2.out; first | omega | exact Nat.le_refl _⟩, ⟨by (with_reducible repeat (first | refine blk_drewN ?_ _ | refine blk_drew ?_ | refine blk_alloc ?_ _)); exact BK618.out⟩, ⟨by repeat (first | (with_reducible first | exact HB.out | apply below_alloc | apply pw_below_drewN | apply below_drew1 | refine below_set ?_ GE618.out) | exact HB.out)⟩⟩
                    · rw [if_neg c37] at H
                      have c37b0 : decide (0 < t633) = false := decide_eq_false c37
                      clear c37
                      have H' := Aside0.mk H
                      clear H
                      obtain ⟨Ao45, co45, eo45⟩ := Kd.V_slice HO_5.out
                      subst eo45
                      go_wp2_with (first | ((with_reducible refine gate_callee (f := 42) rfl ?_); refine goesL_ (some 61) rfl rfl Try.func42 (by kernel_rfl) rfl #[.slice Ao45 x5_2.length co45, .slice A0 l0.length c0] rfl (by (try simp only [List.map_toArray, List.map_cons, List.map_nil]); first | done | rfl | (simp only [List.length_drop, List.length_take]; rfl)) ?_; (with_reducible refine (number_Compare.calls k2 _ _ x5_2 _ _ l0 t632 _ ?side1 ?side2 ?side3 ?side4 A31.out).mono ?_); (case side1 => repeat (first | exact (Kd.V_reads' HO_5.out).2.2 | (with_reducible refine Kd.C_alloc ?_ _) | (with_reducible refine Kd.C_drewN ?_ _) | (with_reducible refine Kd.C_drew ?_))); (case side2 => exact (Kd.V_reads' HO_5.out).2.1); (case side3 => repeat (first | exact (Kd.C_below HR0.out HB.out) | (with_reducible refine Kd.C_alloc ?_ _) | (with_reducible refine Kd.C_drewN ?_ _) | (with_reducible refine Kd.C_drew ?_))); (case side4 => exact HC0.out); rintro e w46 ⟨rfl, hb⟩; refine ⟨_, rfl, ?_⟩; have n0_ := Aside0.mk (Kd.V_below (by (with_reducible repeat (first | apply Kd.V_alloc | apply Kd.V_drewN | apply Kd.V_drew)); exact HO_5.out) hb); have n1_ := Aside0.mk (blk_below (g := gb618) (o := .cells #[.int .i64 a1_0, .int .i64 a1_1] 63 (0, 0)) (by (with_reducible repeat (first | refine blk_drewN ?_ _ | refine blk_drew ?_ | refine blk_alloc ?_ _)); exact BK618.out) hb); have n2_ := Aside0.mk (below_step (by repeat (first | (with_reducible first | exact HB.out | apply below_alloc | apply pw_below_drewN | apply below_drew1 | refine below_set ?_ GE618.out) | exact HB.out)) hb); clear HO_5; clear BK618; clear HB; have HO_5 := n0_; have BK618 := n1_; have HB := n2_; clear n0_ n1_ n2_; (try clear hb); (try clear hb2); (try clear hk); (try clear hi)) | (go_at_call 44; (with_reducible refine (number_Len.calls k2 _ _ l0 t633 _ ?side1 ?side2 A33.out).mono ?_); (case side1 => repeat (first | exact (Kd.C_below HR0.out HB.out) | (with_reducible refine Kd.C_alloc ?_ _) | (with_reducible refine Kd.C_drewN ?_ _) | (with_reducible refine Kd.C_drew ?_))); (case side2 => exact HC0.out); rintro e w47 ⟨rfl, hb⟩; have n0_ := Aside0.mk (Kd.V_below (by (with_reducible repeat (first | apply Kd.V_alloc | apply Kd.V_drewN | apply Kd.V_drew)); exact HO_5.out) hb); have n1_ := Aside0.mk (blk_below (g := gb618) (o := .cells #[.int .i64 a1_0, .int .i64 a1_1] 63 (0, 0)) (by (with_reducible repeat (first | refine blk_drewN ?_ _ | refine blk_drew ?_ | refine blk_alloc ?_ _)); exact BK618.out) hb); have n2_ := Aside0.mk (below_step (by repeat (first | (with_reducible first | exact HB.out | apply below_alloc | apply pw_below_drewN | apply below_drew1 | refine below_set ?_ GE618.out) | exact HB.out)) hb); clear HO_5; clear BK618; clear HB; have HO_5 := n0_; have BK618 := n1_; have HB := n2_; clear n0_ n1_ n2_; (try clear hb); (try clear hb2); (try clear hk); (try clear hi)) | (go_at_call 37; (with_reducible refine (number_Bit.calls _ _ l0 t633 t634 _ ?side1 ?side2 A34.out).mono ?_); (case side1 => repeat (first | exact (Kd.C_below HR0.out HB.out) | (with_reducible refine Kd.C_alloc ?_ _) | (with_reducible refine Kd.C_drewN ?_ _) | (with_reducible refine Kd.C_drew ?_))); (case side2 => exact HC0.out); rintro e w' ⟨rfl, ⟨nd, rfl⟩⟩) | (go_at_call 44; (with_reducible refine (number_Len.calls k2 _ _ l0 t633 _ ?side1 ?side2 A36.out).mono ?_); (case side1 => repeat (first | exact (Kd.C_below HR0.out (by repeat (first | (with_reducible first | exact HB.out | apply below_alloc | apply pw_below_drewN | apply below_drew1 | refine below_set ?_ GE618.out) | exact HB.out))) | (with_reducible refine Kd.C_alloc ?_ _) | (with_reducible refine Kd.C_drewN ?_ _) | (with_reducible refine Kd.C_drew ?_))); (case side2 => exact HC0.out); rintro e w48 ⟨rfl, hb⟩; have n0_ := Aside0.mk (Kd.V_below (by (with_reducible repeat (first | apply Kd.V_alloc | apply Kd.V_drewN | apply Kd.V_drew)); exact HO_5.out) hb); have n1_ := Aside0.mk (blk_below (g := gb618) (o := .cells #[.int .i64 a1_0, .int .i64 a1_1] 63 (0, 0)) (by (with_reducible repeat (first | refine blk_drewN ?_ _ | refine blk_drew ?_ | refine blk_alloc ?_ _)); exact BK618.out) hb); have n2_ := Aside0.mk (below_step (by repeat (first | (with_reducible first | exact HB.out | apply below_alloc | apply pw_below_drewN | apply below_drew1 | refine below_set ?_ GE618.out) | exact HB.out)) hb); clear HO_5; clear BK618; clear HB; have HO_5 := n0_; have BK618 := n1_; have HB := n2_; clear n0_ n1_ n2_; (try clear hb); (try clear hb2); (try clear hk); (try clear hi)))
                      go_meet
                      case rel => exact ⟨_, (false), (by first | rfl | (simp; done) | (simp [*]; done)), H', ⟨by have := HJ2.out; have := HK2.out; first | omega | exact Nat.le_refl _⟩, ⟨by (with_reducible repeat (first | refine blk_drewN ?_ _ | refine blk_drew ?_ | refine blk_alloc ?_ _)); exact BK618.out⟩, ⟨by repeat (first | (with_reducible first | exact HB.out | apply below_alloc | apply pw_below_drewN | apply below_drew1 | refine below_set ?_ GE618.out) | exact HB.out)⟩⟩
                  · rw [if_neg c35] at H
                    have c35b0 : (t634 == 0) = false := beq_eq_false_iff_ne.mpr c35
                    have c35b1 : (t634 != 0) = true := bne_iff_ne.mpr c35
                    have H' := Aside0.mk H
                    clear H
                    obtain ⟨Ao49, co49, eo49⟩ := Kd.V_slice HO_5.out
                    subst eo49
                    go_wp2_with (first | ((with_reducible refine gate_callee (f := 42) rfl ?_); refine goesL_ (some 61) rfl rfl Try.func42 (by kernel_rfl) rfl #[.slice Ao49 x5_2.length co49, .slice A0 l0.length c0] rfl (by (try simp only [List.map_toArray, List.map_cons, List.map_nil]); first | done | rfl | (simp only [List.length_drop, List.length_take]; rfl)) ?_; (with_reducible refine (number_Compare.calls k2 _ _ x5_2 _ _ l0 t632 _ ?side1 ?side2 ?side3 ?side4 A31.out).mono ?_); (case side1 => repeat (first | exact (Kd.V_reads' HO_5.out).2.2 | (with_reducible refine Kd.C_alloc ?_ _) | (with_reducible refine Kd.C_drewN ?_ _) | (with_reducible refine Kd.C_drew ?_))); (case side2 => exact (Kd.V_reads' HO_5.out).2.1); (case side3 => repeat (first | exact (Kd.C_below HR0.out HB.out) | (with_reducible refine Kd.C_alloc ?_ _) | (with_reducible refine Kd.C_drewN ?_ _) | (with_reducible refine Kd.C_drew ?_))); (case side4 => exact HC0.out); rintro e w50 ⟨rfl, hb⟩; refine ⟨_, rfl, ?_⟩; have n0_ := Aside0.mk (Kd.V_below (by (with_reducible repeat (first | apply Kd.V_alloc | apply Kd.V_drewN | apply Kd.V_drew)); exact HO_5.out) hb); have n1_ := Aside0.mk (blk_below (g := gb618) (o := .cells #[.int .i64 a1_0, .int .i64 a1_1] 63 (0, 0)) (by (with_reducible repeat (first | refine blk_drewN ?_ _ | refine blk_drew ?_ | refine blk_alloc ?_ _)); exact BK618.out) hb); have n2_ := Aside0.mk (below_step (by repeat (first | (with_reducible first | exact HB.out | apply below_alloc | apply pw_below_drewN | apply below_drew1 | refine below_set ?_ GE618.out) | exact HB.out)) hb); clear HO_5; clear BK618; clear HB; have HO_5 := n0_; have BK618 := n1_; have HB := n2_; clear n0_ n1_ n2_; (try clear hb); (try clear hb2); (try clear hk); (try clear hi)) | (go_at_call 44; (with_reducible refine (number_Len.calls k2 _ _ l0 t633 _ ?side1 ?side2 A33.out).mono ?_); (case side1 => repeat (first | exact (Kd.C_below HR0.out HB.out) | (with_reducible refine Kd.C_alloc ?_ _) | (with_reducible refine Kd.C_drewN ?_ _) | (with_reducible refine Kd.C_drew ?_))); (case side2 => exact HC0.out); rintro e w51 ⟨rfl, hb⟩; have n0_ := Aside0.mk (Kd.V_below (by (with_reducible repeat (first | apply Kd.V_alloc | apply Kd.V_drewN | apply Kd.V_drew)); exact HO_5.out) hb); have n1_ := Aside0.mk (blk_below (g := gb618) (o := .cells #[.int .i64 a1_0, .int .i64 a1_1] 63 (0, 0)) (by (with_reducible repeat (first | refine blk_drewN ?_ _ | refine blk_drew ?_ | refine blk_alloc ?_ _)); exact BK618.out) hb); have n2_ := Aside0.mk (below_step (by repeat (first | (with_reducible first | exact HB.out | apply below_alloc | apply pw_below_drewN | apply below_drew1 | refine below_set ?_ GE618.out) | exact HB.out)) hb); clear HO_5; clear BK618; clear HB; have HO_5 := n0_; have BK618 := n1_; have HB := n2_; clear n0_ n1_ n2_; (try clear hb); (try clear hb2); (try clear hk); (try clear hi)) | (go_at_call 37; (with_reducible refine (number_Bit.calls _ _ l0 t633 t634 _ ?side1 ?side2 A34.out).mono ?_); (case side1 => repeat (first | exact (Kd.C_below HR0.out HB.out) | (with_reducible refine Kd.C_alloc ?_ _) | (with_reducible refine Kd.C_drewN ?_ _) | (with_reducible refine Kd.C_drew ?_))); (case side2 => exact HC0.out); rintro e w' ⟨rfl, ⟨nd, rfl⟩⟩))
                    go_meet
                    case rel => exact ⟨_, (true), (by first | rfl | (simp; done) | (simp [*]; done)), H', ⟨by have := HJ2.out; have := HK2.out; first | omega | exact Nat.le_refl _⟩, ⟨by (with_reducible repeat (first | refine blk_drewN ?_ _ | refine blk_drew ?_ | refine blk_alloc ?_ _)); exact BK618.out⟩, ⟨by repeat (first | (with_reducible first | exact HB.out | apply below_alloc | apply pw_below_drewN | apply below_drew1 | refine below_set ?_ GE618.out) | exact HB.out)⟩⟩
                · rw [if_neg c32] at H
                  have c32b0 : (t632 == 0) = false := beq_eq_false_iff_ne.mpr c32
                  have c32b1 : (t632 != 0) = true := bne_iff_ne.mpr c32
                  (first | rw [c32b0] | (simp only [i64_w, i32_w]; rw [c32b0]) | skip)
                  have H' := Aside0.mk H
                  clear H
                  obtain ⟨Ao52, co52, eo52⟩ := Kd.V_slice HO_5.out
                  subst eo52
                  go_wp2_with (first | ((with_reducible refine gate_callee (f := 42) rfl ?_); refine goesL_ (some 61) rfl rfl Try.func42 (by kernel_rfl) rfl #[.slice Ao52 x5_2.length co52, .slice A0 l0.length c0] rfl (by (try simp only [List.map_toArray, List.map_cons, List.map_nil]); first | done | rfl | (simp only [List.length_drop, List.length_take]; rfl)) ?_; (with_reducible refine (number_Compare.calls k2 _ _ x5_2 _ _ l0 t632 _ ?side1 ?side2 ?side3 ?side4 A31.out).mono ?_); (case side1 => repeat (first | exact (Kd.V_reads' HO_5.out).2.2 | (with_reducible refine Kd.C_alloc ?_ _) | (with_reducible refine Kd.C_drewN ?_ _) | (with_reducible refine Kd.C_drew ?_))); (case side2 => exact (Kd.V_reads' HO_5.out).2.1); (case side3 => repeat (first | exact (Kd.C_below HR0.out HB.out) | (with_reducible refine Kd.C_alloc ?_ _) | (with_reducible refine Kd.C_drewN ?_ _) | (with_reducible refine Kd.C_drew ?_))); (case side4 => exact HC0.out); rintro e w53 ⟨rfl, hb⟩; refine ⟨_, rfl, ?_⟩; have n0_ := Aside0.mk (Kd.V_below (by (with_reducible repeat (first | apply Kd.V_alloc | apply Kd.V_drewN | apply Kd.V_drew)); exact HO_5.out) hb); have n1_ := Aside0.mk (blk_below (g := gb618) (o := .cells #[.int .i64 a1_0, .int .i64 a1_1] 63 (0, 0)) (by (with_reducible repeat (first | refine blk_drewN ?_ _ | refine blk_drew ?_ | refine blk_alloc ?_ _)); exact BK618.out) hb); have n2_ := Aside0.mk (below_step (by repeat (first | (with_reducible first | exact HB.out | apply below_alloc | apply pw_below_drewN | apply below_drew1 | refine below_set ?_ GE618.out) | exact HB.out)) hb); clear HO_5; clear BK618; clear HB; have HO_5 := n0_; have BK618 := n1_; have HB := n2_; clear n0_ n1_ n2_; (try clear hb); (try clear hb2); (try clear hk); (try clear hi)))
                  go_meet
                  case rel => exact ⟨_, (true), (by first | rfl | (simp; done) | (simp [*]; done)), H', ⟨by have := HJ2.out; have := HK2.out; first | omega | exact Nat.le_refl _⟩, ⟨by (with_reducible repeat (first | refine blk_drewN ?_ _ | refine blk_drew ?_ | refine blk_alloc ?_ _)); exact BK618.out⟩, ⟨by repeat (first | (with_reducible first | exact HB.out | apply below_alloc | apply pw_below_drewN | apply below_drew1 | refine below_set ?_ GE618.out) | exact HB.out)⟩⟩
              case rest =>
                clear HC30
                try clear c1
                try clear p2
                try clear c3
                try clear c4
                try clear c6
                try clear p6
                try clear c7
                try clear c7b0
                try clear c9
                try clear c9b0
                try clear c11
                try clear c11b0
                try clear c14
                try clear c19
                try clear c19b0
                try clear c32
                try clear c32b0
                try clear c32b1
                try clear c35
                try clear c35b0
                try clear c35b1
                try clear c37
                try clear c37b0
                try clear c39
                try clear c40
                try clear c42
                try clear c44
                try clear c48
                try clear hcz10_0
                try clear hcz10_1
                try clear hcz12_0
                try clear hcz12_1
                try clear hcz13_0
                try clear hcz13_1
                try clear hcz8_0
                try clear hcz8_1
                try clear hfz10_0
                try clear hfz10_1
                try clear hfz12_0
                try clear hfz12_1
                try clear hfz13_0
                try clear hfz13_1
                try clear hfz8_0
                try clear hfz8_1
                try clear p2
                try clear p6
                obtain ⟨kq, x82_29, rfl, HA, HJ29, BK618, HB⟩ := hcut
                cases kq with
                | zero => exact absurd HA.out (by simp [chicorylaw03_NumberBits.j2])
                | succ kj29 =>
                  have H := HA.out
                  clear HA
                  simp only [chicorylaw03_NumberBits.j2] at H
                  by_cases c54 : x82_29 = true
                  · subst c54
                    have H1 : (some false) = some true := by rw [if_pos rfl] at H; exact H
                    clear H
                    have H := H1
                    clear H1
                    exact absurd H (by simp)
                  · replace c54 := Bool.eq_false_iff.mpr c54
                    subst c54
                    have H1 : ((number_Shift.f kj29 l0 a1_0).bind fun bt638 => ((number_Shift.f kj29 bt638.1 a1_1).bind fun bt642 => ((number_Shift.f kj29 l0 (wrap64 (a1_0 + a1_1))).bind fun bt646 => ((number_Shift.f kj29 l0 (wrap64 (-a1_0))).bind fun bt650 => ((number_Shift.f kj29 bt650.1 (wrap64 (-a1_1))).bind fun bt654 => ((number_Shift.f kj29 l0 (wrap64 ((wrap64 (-a1_0)) - a1_1))).bind fun bt658 => (if bt638.2 = 0 then (if bt642.2 = 0 then (if bt646.2 = 0 then (if bt650.2 = 0 then (if bt654.2 = 0 then (if bt658.2 = 0 then ((chicorylaw03_Words.f kj29 bt642.1 bt646.1).bind fun t662 => (if t662 = true then ((chicorylaw03_Words.f kj29 bt654.1 bt658.1).bind fun t663 => (if t663 = true then ((chicorylaw03_awake.f kj29).bind fun t664 => (some t664)) else (some false))) else (some false))) else (some false)) else (some false)) else (some false)) else (some false)) else (some false)) else (some false)))))))) = some true := by rw [if_neg (show ¬ (false = true) by decide)] at H; exact H
                    clear H
                    have H := H1
                    clear H1
                    replace H := Option.bind_eq_some_iff.mp H
                    obtain ⟨⟨t638, t641⟩, A550, H⟩ := H
                    replace H : ((number_Shift.f kj29 t638 a1_1).bind fun bt642 => ((number_Shift.f kj29 l0 (wrap64 (a1_0 + a1_1))).bind fun bt646 => ((number_Shift.f kj29 l0 (wrap64 (-a1_0))).bind fun bt650 => ((number_Shift.f kj29 bt650.1 (wrap64 (-a1_1))).bind fun bt654 => ((number_Shift.f kj29 l0 (wrap64 ((wrap64 (-a1_0)) - a1_1))).bind fun bt658 => (if t641 = 0 then (if bt642.2 = 0 then (if bt646.2 = 0 then (if bt650.2 = 0 then (if bt654.2 = 0 then (if bt658.2 = 0 then ((chicorylaw03_Words.f kj29 bt642.1 bt646.1).bind fun t662 => (if t662 = true then ((chicorylaw03_Words.f kj29 bt654.1 bt658.1).bind fun t663 => (if t663 = true then ((chicorylaw03_awake.f kj29).bind fun t664 => (some t664)) else (some false))) else (some false))) else (some false)) else (some false)) else (some false)) else (some false)) else (some false)) else (some false))))))) = some true := H
                    have A55 := Aside0.mk A550
                    clear A550
                    replace H := Option.bind_eq_some_iff.mp H
                    obtain ⟨⟨t642, t645⟩, A560, H⟩ := H
                    replace H : ((number_Shift.f kj29 l0 (wrap64 (a1_0 + a1_1))).bind fun bt646 => ((number_Shift.f kj29 l0 (wrap64 (-a1_0))).bind fun bt650 => ((number_Shift.f kj29 bt650.1 (wrap64 (-a1_1))).bind fun bt654 => ((number_Shift.f kj29 l0 (wrap64 ((wrap64 (-a1_0)) - a1_1))).bind fun bt658 => (if t641 = 0 then (if t645 = 0 then (if bt646.2 = 0 then (if bt650.2 = 0 then (if bt654.2 = 0 then (if bt658.2 = 0 then ((chicorylaw03_Words.f kj29 t642 bt646.1).bind fun t662 => (if t662 = true then ((chicorylaw03_Words.f kj29 bt654.1 bt658.1).bind fun t663 => (if t663 = true then ((chicorylaw03_awake.f kj29).bind fun t664 => (some t664)) else (some false))) else (some false))) else (some false)) else (some false)) else (some false)) else (some false)) else (some false)) else (some false)))))) = some true := H
                    have A56 := Aside0.mk A560
                    clear A560
                    replace H := Option.bind_eq_some_iff.mp H
                    obtain ⟨⟨t646, t649⟩, A570, H⟩ := H
                    replace H : ((number_Shift.f kj29 l0 (wrap64 (-a1_0))).bind fun bt650 => ((number_Shift.f kj29 bt650.1 (wrap64 (-a1_1))).bind fun bt654 => ((number_Shift.f kj29 l0 (wrap64 ((wrap64 (-a1_0)) - a1_1))).bind fun bt658 => (if t641 = 0 then (if t645 = 0 then (if t649 = 0 then (if bt650.2 = 0 then (if bt654.2 = 0 then (if bt658.2 = 0 then ((chicorylaw03_Words.f kj29 t642 t646).bind fun t662 => (if t662 = true then ((chicorylaw03_Words.f kj29 bt654.1 bt658.1).bind fun t663 => (if t663 = true then ((chicorylaw03_awake.f kj29).bind fun t664 => (some t664)) else (some false))) else (some false))) else (some false)) else (some false)) else (some false)) else (some false)) else (some false)) else (some false))))) = some true := H
                    have A57 := Aside0.mk A570
                    clear A570
                    replace H := Option.bind_eq_some_iff.mp H
                    obtain ⟨⟨t650, t653⟩, A580, H⟩ := H
                    replace H : ((number_Shift.f kj29 t650 (wrap64 (-a1_1))).bind fun bt654 => ((number_Shift.f kj29 l0 (wrap64 ((wrap64 (-a1_0)) - a1_1))).bind fun bt658 => (if t641 = 0 then (if t645 = 0 then (if t649 = 0 then (if t653 = 0 then (if bt654.2 = 0 then (if bt658.2 = 0 then ((chicorylaw03_Words.f kj29 t642 t646).bind fun t662 => (if t662 = true then ((chicorylaw03_Words.f kj29 bt654.1 bt658.1).bind fun t663 => (if t663 = true then ((chicorylaw03_awake.f kj29).bind fun t664 => (some t664)) else (some false))) else (some false))) else (some false)) else (some false)) else (some false)) else (some false)) else (some false)) else (some false)))) = some true := H
                    have A58 := Aside0.mk A580
                    clear A580
                    replace H := Option.bind_eq_some_iff.mp H
                    obtain ⟨⟨t654, t657⟩, A590, H⟩ := H
                    replace H : ((number_Shift.f kj29 l0 (wrap64 ((wrap64 (-a1_0)) - a1_1))).bind fun bt658 => (if t641 = 0 then (if t645 = 0 then (if t649 = 0 then (if t653 = 0 then (if t657 = 0 then (if bt658.2 = 0 then ((chicorylaw03_Words.f kj29 t642 t646).bind fun t662 => (if t662 = true then ((chicorylaw03_Words.f kj29 t654 bt658.1).bind fun t663 => (if t663 = true then ((chicorylaw03_awake.f kj29).bind fun t664 => (some t664)) else (some false))) else (some false))) else (some false)) else (some false)) else (some false)) else (some false)) else (some false)) else (some false))) = some true := H
                    have A59 := Aside0.mk A590
                    clear A590
                    replace H := Option.bind_eq_some_iff.mp H
                    obtain ⟨⟨t658, t661⟩, A600, H⟩ := H
                    replace H : (if t641 = 0 then (if t645 = 0 then (if t649 = 0 then (if t653 = 0 then (if t657 = 0 then (if t661 = 0 then ((chicorylaw03_Words.f kj29 t642 t646).bind fun t662 => (if t662 = true then ((chicorylaw03_Words.f kj29 t654 t658).bind fun t663 => (if t663 = true then ((chicorylaw03_awake.f kj29).bind fun t664 => (some t664)) else (some false))) else (some false))) else (some false)) else (some false)) else (some false)) else (some false)) else (some false)) else (some false)) = some true := H
                    have A60 := Aside0.mk A600
                    clear A600
                    by_cases c61 : t641 = 0
                    · rw [if_pos c61] at H
                      have c61b0 : (t641 == 0) = true := beq_iff_eq.mpr c61
                      have c61b1 : (t641 != 0) = false := bne_eq_false_iff_eq.mpr c61
                      clear c61
                      by_cases c62 : t645 = 0
                      · rw [if_pos c62] at H
                        have c62b0 : (t645 == 0) = true := beq_iff_eq.mpr c62
                        have c62b1 : (t645 != 0) = false := bne_eq_false_iff_eq.mpr c62
                        clear c62
                        by_cases c63 : t649 = 0
                        · rw [if_pos c63] at H
                          have c63b0 : (t649 == 0) = true := beq_iff_eq.mpr c63
                          have c63b1 : (t649 != 0) = false := bne_eq_false_iff_eq.mpr c63
                          clear c63
                          by_cases c64 : t653 = 0
                          · rw [if_pos c64] at H
                            have c64b0 : (t653 == 0) = true := beq_iff_eq.mpr c64
                            have c64b1 : (t653 != 0) = false := bne_eq_false_iff_eq.mpr c64
                            clear c64
                            by_cases c65 : t657 = 0
                            · rw [if_pos c65] at H
                              have c65b0 : (t657 == 0) = true := beq_iff_eq.mpr c65
                              have c65b1 : (t657 != 0) = false := bne_eq_false_iff_eq.mpr c65
                              clear c65
                              by_cases c66 : t661 = 0
                              · rw [if_pos c66] at H
                                have c66b0 : (t661 == 0) = true := beq_iff_eq.mpr c66
                                have c66b1 : (t661 != 0) = false := bne_eq_false_iff_eq.mpr c66
                                clear c66
                                replace H := Option.bind_eq_some_iff.mp H
                                obtain ⟨t662, A670, H⟩ := H
                                replace H : (if t662 = true then ((chicorylaw03_Words.f kj29 t654 t658).bind fun t663 => (if t663 = true then ((chicorylaw03_awake.f kj29).bind fun t664 => (some t664)) else (some false))) else (some false)) = some true := H
                                have A67 := Aside0.mk A670
                                clear A670
                                by_cases c68 : t662 = true
                                · subst c68
                                  have H1 : ((chicorylaw03_Words.f kj29 t654 t658).bind fun t663 => (if t663 = true then ((chicorylaw03_awake.f kj29).bind fun t664 => (some t664)) else (some false))) = some true := by rw [if_pos rfl] at H; exact H
                                  clear H
                                  have H := H1
                                  clear H1
                                  replace H := Option.bind_eq_some_iff.mp H
                                  obtain ⟨t663, A690, H⟩ := H
                                  replace H : (if t663 = true then ((chicorylaw03_awake.f kj29).bind fun t664 => (some t664)) else (some false)) = some true := H
                                  have A69 := Aside0.mk A690
                                  clear A690
                                  by_cases c70 : t663 = true
                                  · subst c70
                                    have H1 : ((chicorylaw03_awake.f kj29).bind fun t664 => (some t664)) = some true := by rw [if_pos rfl] at H; exact H
                                    clear H
                                    have H := H1
                                    clear H1
                                    replace H := Option.bind_eq_some_iff.mp H
                                    obtain ⟨t664, A710, H⟩ := H
                                    replace H : (some t664) = some true := H
                                    have A71 := Aside0.mk A710
                                    clear A710
                                    obtain rfl := Option.some.inj H
                                    have hcz72_0 : wc.cell? ⟨gb618, 0, none⟩ = some (.int .i64 a1_0) := (blk_cell BK618.out 0).trans rfl
                                    have hcz72_1 : wc.cell? ⟨gb618, 1, none⟩ = some (.int .i64 a1_1) := (blk_cell BK618.out 1).trans rfl
                                    have hfz72_0 := blk_frozen BK618.out 0
                                    have hfz72_1 := blk_frozen BK618.out 1
                                    go_wp2_with (first | ((with_reducible refine gate_callee (f := 57) rfl ?_); refine goesL_ (some 87) rfl rfl Try.func57 (by kernel_rfl) rfl #[.slice A0 l0.length c0, .int .i64 a1_0] rfl (by (try simp only [List.map_toArray, List.map_cons, List.map_nil]); first | done | rfl | (simp only [List.length_drop, List.length_take]; rfl)) ?_; (with_reducible refine (number_Shift.calls kj29 _ _ l0 a1_0 t638 t641 _ ?side1 ?side2 A55.out).mono ?_); (case side1 => repeat (first | exact (Kd.C_below HR0.out HB.out) | (with_reducible refine Kd.C_alloc ?_ _) | (with_reducible refine Kd.C_drewN ?_ _) | (with_reducible refine Kd.C_drew ?_))); (case side2 => exact HC0.out); rintro e w73 ⟨v639, rfl, ho0, hb⟩; refine ⟨_, rfl, ?_⟩; have n0_ := Aside0.mk (Kd.V_lower (Kd.V_mono (ok' := fun k_ => k_ ≠ gb618) ho0 (fun k_ hk_ => (Kd.freshB (g := gb618) (o := .cells #[.int .i64 a1_0, .int .i64 a1_1] 63 (0, 0)) (by (with_reducible repeat (first | refine blk_drewN ?_ _ | refine blk_drew ?_ | refine blk_alloc ?_ _)); exact BK618.out) k_ hk_))) (below_size (by repeat (first | (with_reducible first | exact HB.out | apply below_alloc | apply pw_below_drewN | apply below_drew1 | refine below_set ?_ GE618.out) | exact HB.out)))); have n1_ := Aside0.mk (blk_below (g := gb618) (o := .cells #[.int .i64 a1_0, .int .i64 a1_1] 63 (0, 0)) (by (with_reducible repeat (first | refine blk_drewN ?_ _ | refine blk_drew ?_ | refine blk_alloc ?_ _)); exact BK618.out) hb); have n2_ := Aside0.mk (below_step (by repeat (first | (with_reducible first | exact HB.out | apply below_alloc | apply pw_below_drewN | apply below_drew1 | refine below_set ?_ GE618.out) | exact HB.out)) hb); clear BK618; clear HB; have HO640 := n0_; have BK618 := n1_; have HB := n2_; clear n0_ n1_ n2_; (try clear hb); (try clear hb2); (try clear hk); (try clear hi); (try clear ho0); have hcz74_0 : w73.cell? ⟨gb618, 0, none⟩ = some (.int .i64 a1_0) := (blk_cell BK618.out 0).trans rfl; have hcz74_1 : w73.cell? ⟨gb618, 1, none⟩ = some (.int .i64 a1_1) := (blk_cell BK618.out 1).trans rfl; have hfz74_0 := blk_frozen BK618.out 0; have hfz74_1 := blk_frozen BK618.out 1; obtain ⟨Ao75, co75, eo75⟩ := Kd.V_slice HO640.out; subst eo75) | ((with_reducible refine gate_callee (f := 57) rfl ?_); refine goesL_ (some 94) rfl rfl Try.func57 (by kernel_rfl) rfl #[.slice Ao75 t638.length co75, .int .i64 a1_1] rfl (by (try simp only [List.map_toArray, List.map_cons, List.map_nil]); first | done | rfl | (simp only [List.length_drop, List.length_take]; rfl)) ?_; (with_reducible refine (number_Shift.calls kj29 _ _ t638 a1_1 t642 t645 _ ?side1 ?side2 A56.out).mono ?_); (case side1 => repeat (first | exact (Kd.V_reads' HO640.out).2.2 | (with_reducible refine Kd.C_alloc ?_ _) | (with_reducible refine Kd.C_drewN ?_ _) | (with_reducible refine Kd.C_drew ?_))); (case side2 => exact (Kd.V_reads' HO640.out).2.1); rintro e w76 ⟨v643, rfl, ho0, hb⟩; refine ⟨_, rfl, ?_⟩; have n0_ := Aside0.mk (Kd.V_below (by (with_reducible repeat (first | apply Kd.V_alloc | apply Kd.V_drewN | apply Kd.V_drew)); exact HO640.out) hb); have n1_ := Aside0.mk (Kd.V_lower (Kd.V_mono (ok' := fun k_ => k_ ≠ gb618) ho0 (fun k_ hk_ => (Kd.freshB (g := gb618) (o := .cells #[.int .i64 a1_0, .int .i64 a1_1] 63 (0, 0)) (by (with_reducible repeat (first | refine blk_drewN ?_ _ | refine blk_drew ?_ | refine blk_alloc ?_ _)); exact BK618.out) k_ hk_))) (below_size (by repeat (first | (with_reducible first | exact HB.out | apply below_alloc | apply pw_below_drewN | apply below_drew1 | refine below_set ?_ GE618.out) | exact HB.out)))); have n2_ := Aside0.mk (blk_below (g := gb618) (o := .cells #[.int .i64 a1_0, .int .i64 a1_1] 63 (0, 0)) (by (with_reducible repeat (first | refine blk_drewN ?_ _ | refine blk_drew ?_ | refine blk_alloc ?_ _)); exact BK618.out) hb); have n3_ := Aside0.mk (below_step (by repeat (first | (with_reducible first | exact HB.out | apply below_alloc | apply pw_below_drewN | apply below_drew1 | refine below_set ?_ GE618.out) | exact HB.out)) hb); clear HO640; clear BK618; clear HB; have HO640 := n0_; have HO644 := n1_; have BK618 := n2_; have HB := n3_; clear n0_ n1_ n2_ n3_; (try clear hb); (try clear hb2); (try clear hk); (try clear hi); (try clear ho0); have hcz77_0 : w76.cell? ⟨gb618, 0, none⟩ = some (.int .i64 a1_0) := (blk_cell BK618.out 0).trans rfl; have hcz77_1 : w76.cell? ⟨gb618, 1, none⟩ = some (.int .i64 a1_1) := (blk_cell BK618.out 1).trans rfl; have hfz77_0 := blk_frozen BK618.out 0; have hfz77_1 := blk_frozen BK618.out 1) | ((with_reducible refine gate_callee (f := 57) rfl ?_); refine goesL_ (some 104) rfl rfl Try.func57 (by kernel_rfl) rfl #[.slice A0 l0.length c0, .int .i64 (wrap64 (a1_0 + a1_1))] rfl (by (try simp only [List.map_toArray, List.map_cons, List.map_nil]); first | done | rfl | (simp only [List.length_drop, List.length_take]; rfl)) ?_; (with_reducible refine (number_Shift.calls kj29 _ _ l0 (wrap64 (a1_0 + a1_1)) t646 t649 _ ?side1 ?side2 A57.out).mono ?_); (case side1 => repeat (first | exact (Kd.C_below HR0.out HB.out) | (with_reducible refine Kd.C_alloc ?_ _) | (with_reducible refine Kd.C_drewN ?_ _) | (with_reducible refine Kd.C_drew ?_))); (case side2 => exact HC0.out); rintro e w78 ⟨v647, rfl, ho0, hb⟩; refine ⟨_, rfl, ?_⟩; have n0_ := Aside0.mk (Kd.V_below (by (with_reducible repeat (first | apply Kd.V_alloc | apply Kd.V_drewN | apply Kd.V_drew)); exact HO640.out) hb); have n1_ := Aside0.mk (Kd.V_below (by (with_reducible repeat (first | apply Kd.V_alloc | apply Kd.V_drewN | apply Kd.V_drew)); exact HO644.out) hb); have n2_ := Aside0.mk (Kd.V_lower (Kd.V_mono (ok' := fun k_ => k_ ≠ gb618) ho0 (fun k_ hk_ => (Kd.freshB (g := gb618) (o := .cells #[.int .i64 a1_0, .int .i64 a1_1] 63 (0, 0)) (by (with_reducible repeat (first | refine blk_drewN ?_ _ | refine blk_drew ?_ | refine blk_alloc ?_ _)); exact BK618.out) k_ hk_))) (below_size (by repeat (first | (with_reducible first | exact HB.out | apply below_alloc | apply pw_below_drewN | apply below_drew1 | refine below_set ?_ GE618.out) | exact HB.out)))); have n3_ := Aside0.mk (blk_below (g := gb618) (o := .cells #[.int .i64 a1_0, .int .i64 a1_1] 63 (0, 0)) (by (with_reducible repeat (first | refine blk_drewN ?_ _ | refine blk_drew ?_ | refine blk_alloc ?_ _)); exact BK618.out) hb); have n4_ := Aside0.mk (below_step (by repeat (first | (with_reducible first | exact HB.out | apply below_alloc | apply pw_below_drewN | apply below_drew1 | refine below_set ?_ GE618.out) | exact HB.out)) hb); clear HO640; clear HO644; clear BK618; clear HB; have HO640 := n0_; have HO644 := n1_; have HO648 := n2_; have BK618 := n3_; have HB := n4_; clear n0_ n1_ n2_ n3_ n4_; (try clear hb); (try clear hb2); (try clear hk); (try clear hi); (try clear ho0); have hcz79_0 : w78.cell? ⟨gb618, 0, none⟩ = some (.int .i64 a1_0) := (blk_cell BK618.out 0).trans rfl; have hcz79_1 : w78.cell? ⟨gb618, 1, none⟩ = some (.int .i64 a1_1) := (blk_cell BK618.out 1).trans rfl; have hfz79_0 := blk_frozen BK618.out 0; have hfz79_1 := blk_frozen BK618.out 1) | ((with_reducible refine gate_callee (f := 57) rfl ?_); refine goesL_ (some 112) rfl rfl Try.func57 (by kernel_rfl) rfl #[.slice A0 l0.length c0, .int .i64 (wrap64 (-a1_0))] rfl (by (try simp only [List.map_toArray, List.map_cons, List.map_nil]); first | done | rfl | (simp only [List.length_drop, List.length_take]; rfl)) ?_; (with_reducible refine (number_Shift.calls kj29 _ _ l0 (wrap64 (-a1_0)) t650 t653 _ ?side1 ?side2 A58.out).mono ?_); (case side1 => repeat (first | exact (Kd.C_below HR0.out HB.out) | (with_reducible refine Kd.C_alloc ?_ _) | (with_reducible refine Kd.C_drewN ?_ _) | (with_reducible refine Kd.C_drew ?_))); (case side2 => exact HC0.out); rintro e w80 ⟨v651, rfl, ho0, hb⟩; refine ⟨_, rfl, ?_⟩; have n0_ := Aside0.mk (Kd.V_below (by (with_reducible repeat (first | apply Kd.V_alloc | apply Kd.V_drewN | apply Kd.V_drew)); exact HO640.out) hb); have n1_ := Aside0.mk (Kd.V_below (by (with_reducible repeat (first | apply Kd.V_alloc | apply Kd.V_drewN | apply Kd.V_drew)); exact HO644.out) hb); have n2_ := Aside0.mk (Kd.V_below (by (with_reducible repeat (first | apply Kd.V_alloc | apply Kd.V_drewN | apply Kd.V_drew)); exact HO648.out) hb); have n3_ := Aside0.mk (Kd.V_lower (Kd.V_mono (ok' := fun k_ => k_ ≠ gb618) ho0 (fun k_ hk_ => (Kd.freshB (g := gb618) (o := .cells #[.int .i64 a1_0, .int .i64 a1_1] 63 (0, 0)) (by (with_reducible repeat (first | refine blk_drewN ?_ _ | refine blk_drew ?_ | refine blk_alloc ?_ _)); exact BK618.out) k_ hk_))) (below_size (by repeat (first | (with_reducible first | exact HB.out | apply below_alloc | apply pw_below_drewN | apply below_drew1 | refine below_set ?_ GE618.out) | exact HB.out)))); have n4_ := Aside0.mk (blk_below (g := gb618) (o := .cells #[.int .i64 a1_0, .int .i64 a1_1] 63 (0, 0)) (by (with_reducible repeat (first | refine blk_drewN ?_ _ | refine blk_drew ?_ | refine blk_alloc ?_ _)); exact BK618.out) hb); have n5_ := Aside0.mk (below_step (by repeat (first | (with_reducible first | exact HB.out | apply below_alloc | apply pw_below_drewN | apply below_drew1 | refine below_set ?_ GE618.out) | exact HB.out)) hb); clear HO640; clear HO644; clear HO648; clear BK618; clear HB; have HO640 := n0_; have HO644 := n1_; have HO648 := n2_; have HO652 := n3_; have BK618 := n4_; have HB := n5_; clear n0_ n1_ n2_ n3_ n4_ n5_; (try clear hb); (try clear hb2); (try clear hk); (try clear hi); (try clear ho0); have hcz81_0 : w80.cell? ⟨gb618, 0, none⟩ = some (.int .i64 a1_0) := (blk_cell BK618.out 0).trans rfl; have hcz81_1 : w80.cell? ⟨gb618, 1, none⟩ = some (.int .i64 a1_1) := (blk_cell BK618.out 1).trans rfl; have hfz81_0 := blk_frozen BK618.out 0; have hfz81_1 := blk_frozen BK618.out 1; obtain ⟨Ao82, co82, eo82⟩ := Kd.V_slice HO652.out; subst eo82) | ((with_reducible refine gate_callee (f := 57) rfl ?_); refine goesL_ (some 120) rfl rfl Try.func57 (by kernel_rfl) rfl #[.slice Ao82 t650.length co82, .int .i64 (wrap64 (-a1_1))] rfl (by (try simp only [List.map_toArray, List.map_cons, List.map_nil]); first | done | rfl | (simp only [List.length_drop, List.length_take]; rfl)) ?_; (with_reducible refine (number_Shift.calls kj29 _ _ t650 (wrap64 (-a1_1)) t654 t657 _ ?side1 ?side2 A59.out).mono ?_); (case side1 => repeat (first | exact (Kd.V_reads' HO652.out).2.2 | (with_reducible refine Kd.C_alloc ?_ _) | (with_reducible refine Kd.C_drewN ?_ _) | (with_reducible refine Kd.C_drew ?_))); (case side2 => exact (Kd.V_reads' HO652.out).2.1); rintro e w83 ⟨v655, rfl, ho0, hb⟩; refine ⟨_, rfl, ?_⟩; have n0_ := Aside0.mk (Kd.V_below (by (with_reducible repeat (first | apply Kd.V_alloc | apply Kd.V_drewN | apply Kd.V_drew)); exact HO640.out) hb); have n1_ := Aside0.mk (Kd.V_below (by (with_reducible repeat (first | apply Kd.V_alloc | apply Kd.V_drewN | apply Kd.V_drew)); exact HO644.out) hb); have n2_ := Aside0.mk (Kd.V_below (by (with_reducible repeat (first | apply Kd.V_alloc | apply Kd.V_drewN | apply Kd.V_drew)); exact HO648.out) hb); have n3_ := Aside0.mk (Kd.V_below (by (with_reducible repeat (first | apply Kd.V_alloc | apply Kd.V_drewN | apply Kd.V_drew)); exact HO652.out) hb); have n4_ := Aside0.mk (Kd.V_lower (Kd.V_mono (ok' := fun k_ => k_ ≠ gb618) ho0 (fun k_ hk_ => (Kd.freshB (g := gb618) (o := .cells #[.int .i64 a1_0, .int .i64 a1_1] 63 (0, 0)) (by (with_reducible repeat (first | refine blk_drewN ?_ _ | refine blk_drew ?_ | refine blk_alloc ?_ _)); exact BK618.out) k_ hk_))) (below_size (by repeat (first | (with_reducible first | exact HB.out | apply below_alloc | apply pw_below_drewN | apply below_drew1 | refine below_set ?_ GE618.out) | exact HB.out)))); have n5_ := Aside0.mk (blk_below (g := gb618) (o := .cells #[.int .i64 a1_0, .int .i64 a1_1] 63 (0, 0)) (by (with_reducible repeat (first | refine blk_drewN ?_ _ | refine blk_drew ?_ | refine blk_alloc ?_ _)); exact BK618.out) hb); have n6_ := Aside0.mk (below_step (by repeat (first | (with_reducible first | exact HB.out | apply below_alloc | apply pw_below_drewN | apply below_drew1 | refine below_set ?_ GE618.out) | exact HB.out)) hb); clear HO640; clear HO644; clear HO648; clear HO652; clear BK618; clear HB; have HO640 := n0_; have HO644 := n1_; have HO648 := n2_; have HO652 := n3_; have HO656 := n4_; have BK618 := n5_; have HB := n6_; clear n0_ n1_ n2_ n3_ n4_ n5_ n6_; (try clear hb); (try clear hb2); (try clear hk); (try clear hi); (try clear ho0); have hcz84_0 : w83.cell? ⟨gb618, 0, none⟩ = some (.int .i64 a1_0) := (blk_cell BK618.out 0).trans rfl; have hcz84_1 : w83.cell? ⟨gb618, 1, none⟩ = some (.int .i64 a1_1) := (blk_cell BK618.out 1).trans rfl; have hfz84_0 := blk_frozen BK618.out 0; have hfz84_1 := blk_frozen BK618.out 1) | ((with_reducible refine gate_callee (f := 57) rfl ?_); refine goesL_ (some 131) rfl rfl Try.func57 (by kernel_rfl) rfl #[.slice A0 l0.length c0, .int .i64 (wrap64 ((wrap64 (-a1_0)) - a1_1))] rfl (by (try simp only [List.map_toArray, List.map_cons, List.map_nil]); first | done | rfl | (simp only [List.length_drop, List.length_take]; rfl)) ?_; (with_reducible refine (number_Shift.calls kj29 _ _ l0 (wrap64 ((wrap64 (-a1_0)) - a1_1)) t658 t661 _ ?side1 ?side2 A60.out).mono ?_); (case side1 => repeat (first | exact (Kd.C_below HR0.out HB.out) | (with_reducible refine Kd.C_alloc ?_ _) | (with_reducible refine Kd.C_drewN ?_ _) | (with_reducible refine Kd.C_drew ?_))); (case side2 => exact HC0.out); rintro e w85 ⟨v659, rfl, ho0, hb⟩; refine ⟨_, rfl, ?_⟩; have n0_ := Aside0.mk (Kd.V_below (by (with_reducible repeat (first | apply Kd.V_alloc | apply Kd.V_drewN | apply Kd.V_drew)); exact HO640.out) hb); have n1_ := Aside0.mk (Kd.V_below (by (with_reducible repeat (first | apply Kd.V_alloc | apply Kd.V_drewN | apply Kd.V_drew)); exact HO644.out) hb); have n2_ := Aside0.mk (Kd.V_below (by (with_reducible repeat (first | apply Kd.V_alloc | apply Kd.V_drewN | apply Kd.V_drew)); exact HO648.out) hb); have n3_ := Aside0.mk (Kd.V_below (by (with_reducible repeat (first | apply Kd.V_alloc | apply Kd.V_drewN | apply Kd.V_drew)); exact HO652.out) hb); have n4_ := Aside0.mk (Kd.V_below (by (with_reducible repeat (first | apply Kd.V_alloc | apply Kd.V_drewN | apply Kd.V_drew)); exact HO656.out) hb); have n5_ := Aside0.mk (Kd.V_lower (Kd.V_mono (ok' := fun k_ => k_ ≠ gb618) ho0 (fun k_ hk_ => (Kd.freshB (g := gb618) (o := .cells #[.int .i64 a1_0, .int .i64 a1_1] 63 (0, 0)) (by (with_reducible repeat (first | refine blk_drewN ?_ _ | refine blk_drew ?_ | refine blk_alloc ?_ _)); exact BK618.out) k_ hk_))) (below_size (by repeat (first | (with_reducible first | exact HB.out | apply below_alloc | apply pw_below_drewN | apply below_drew1 | refine below_set ?_ GE618.out) | exact HB.out)))); have n6_ := Aside0.mk (blk_below (g := gb618) (o := .cells #[.int .i64 a1_0, .int .i64 a1_1] 63 (0, 0)) (by (with_reducible repeat (first | refine blk_drewN ?_ _ | refine blk_drew ?_ | refine blk_alloc ?_ _)); exact BK618.out) hb); have n7_ := Aside0.mk (below_step (by repeat (first | (with_reducible first | exact HB.out | apply below_alloc | apply pw_below_drewN | apply below_drew1 | refine below_set ?_ GE618.out) | exact HB.out)) hb); clear HO640; clear HO644; clear HO648; clear HO652; clear HO656; clear BK618; clear HB; have HO640 := n0_; have HO644 := n1_; have HO648 := n2_; have HO652 := n3_; have HO656 := n4_; have HO660 := n5_; have BK618 := n6_; have HB := n7_; clear n0_ n1_ n2_ n3_ n4_ n5_ n6_ n7_; (try clear hb); (try clear hb2); (try clear hk); (try clear hi); (try clear ho0); obtain ⟨Ao86, co86, eo86⟩ := Kd.V_slice HO644.out; subst eo86; obtain ⟨Ao87, co87, eo87⟩ := Kd.V_slice HO648.out; subst eo87) | (go_at_call 56; (with_reducible refine (chicorylaw03_Words.calls kj29 _ _ t642 _ _ t646 true _ ?side1 ?side2 ?side3 ?side4 A67.out).mono ?_); (case side1 => repeat (first | exact (Kd.V_reads' HO644.out).2.2 | (with_reducible refine Kd.C_alloc ?_ _) | (with_reducible refine Kd.C_drewN ?_ _) | (with_reducible refine Kd.C_drew ?_))); (case side2 => exact (Kd.V_reads' HO644.out).2.1); (case side3 => repeat (first | exact (Kd.V_reads' HO648.out).2.2 | (with_reducible refine Kd.C_alloc ?_ _) | (with_reducible refine Kd.C_drewN ?_ _) | (with_reducible refine Kd.C_drew ?_))); (case side4 => exact (Kd.V_reads' HO648.out).2.1); rintro e w' ⟨rfl, ⟨nd, rfl⟩⟩; obtain ⟨Ao88, co88, eo88⟩ := Kd.V_slice HO656.out; subst eo88; obtain ⟨Ao89, co89, eo89⟩ := Kd.V_slice HO660.out; subst eo89) | (go_at_call 56; (with_reducible refine (chicorylaw03_Words.calls kj29 _ _ t654 _ _ t658 true _ ?side1 ?side2 ?side3 ?side4 A69.out).mono ?_); (case side1 => repeat (first | exact (Kd.V_reads' HO656.out).2.2 | (with_reducible refine Kd.C_alloc ?_ _) | (with_reducible refine Kd.C_drewN ?_ _) | (with_reducible refine Kd.C_drew ?_))); (case side2 => exact (Kd.V_reads' HO656.out).2.1); (case side3 => repeat (first | exact (Kd.V_reads' HO660.out).2.2 | (with_reducible refine Kd.C_alloc ?_ _) | (with_reducible refine Kd.C_drewN ?_ _) | (with_reducible refine Kd.C_drew ?_))); (case side4 => exact (Kd.V_reads' HO660.out).2.1); rintro e w' ⟨rfl, ⟨nd, rfl⟩⟩) | (go_at_call 40; (with_reducible refine (chicorylaw03_awake.calls kj29  true _ A71.out).mono ?_); rintro e w90 ⟨rfl, hb⟩; have n0_ := Aside0.mk (Kd.V_below (by (with_reducible repeat (first | apply Kd.V_alloc | apply Kd.V_drewN | apply Kd.V_drew)); exact HO640.out) hb); have n1_ := Aside0.mk (Kd.V_below (by (with_reducible repeat (first | apply Kd.V_alloc | apply Kd.V_drewN | apply Kd.V_drew)); exact HO644.out) hb); have n2_ := Aside0.mk (Kd.V_below (by (with_reducible repeat (first | apply Kd.V_alloc | apply Kd.V_drewN | apply Kd.V_drew)); exact HO648.out) hb); have n3_ := Aside0.mk (Kd.V_below (by (with_reducible repeat (first | apply Kd.V_alloc | apply Kd.V_drewN | apply Kd.V_drew)); exact HO652.out) hb); have n4_ := Aside0.mk (Kd.V_below (by (with_reducible repeat (first | apply Kd.V_alloc | apply Kd.V_drewN | apply Kd.V_drew)); exact HO656.out) hb); have n5_ := Aside0.mk (Kd.V_below (by (with_reducible repeat (first | apply Kd.V_alloc | apply Kd.V_drewN | apply Kd.V_drew)); exact HO660.out) hb); have n6_ := Aside0.mk (blk_below (g := gb618) (o := .cells #[.int .i64 a1_0, .int .i64 a1_1] 63 (0, 0)) (by (with_reducible repeat (first | refine blk_drewN ?_ _ | refine blk_drew ?_ | refine blk_alloc ?_ _)); exact BK618.out) hb); have n7_ := Aside0.mk (below_step (by repeat (first | (with_reducible first | exact HB.out | apply below_alloc | apply pw_below_drewN | apply below_drew1 | refine below_set ?_ GE618.out) | exact HB.out)) hb); clear HO640; clear HO644; clear HO648; clear HO652; clear HO656; clear HO660; clear BK618; clear HB; have HO640 := n0_; have HO644 := n1_; have HO648 := n2_; have HO652 := n3_; have HO656 := n4_; have HO660 := n5_; have BK618 := n6_; have HB := n7_; clear n0_ n1_ n2_ n3_ n4_ n5_ n6_ n7_; (try clear hb); (try clear hb2); (try clear hk); (try clear hi)))
                                    go_ret
                                    exact ⟨by first | rfl | (simp [errW_none, errW_some] <;> rfl) | (simp [*, errW_none, errW_some] <;> rfl), by repeat (first | (with_reducible first | exact HB.out | apply below_alloc | apply pw_below_drewN | apply below_drew1 | refine below_set ?_ GE618.out) | exact HB.out)⟩
                                  · replace c70 := Bool.eq_false_iff.mpr c70
                                    subst c70
                                    have H1 : (some false) = some true := by rw [if_neg (show ¬ (false = true) by decide)] at H; exact H
                                    clear H
                                    have H := H1
                                    clear H1
                                    exact absurd H (by simp)
                                · replace c68 := Bool.eq_false_iff.mpr c68
                                  subst c68
                                  have H1 : (some false) = some true := by rw [if_neg (show ¬ (false = true) by decide)] at H; exact H
                                  clear H
                                  have H := H1
                                  clear H1
                                  exact absurd H (by simp)
                              · rw [if_neg c66] at H
                                have c66b0 : (t661 == 0) = false := beq_eq_false_iff_ne.mpr c66
                                have c66b1 : (t661 != 0) = true := bne_iff_ne.mpr c66
                                exact absurd H (by simp)
                            · rw [if_neg c65] at H
                              have c65b0 : (t657 == 0) = false := beq_eq_false_iff_ne.mpr c65
                              have c65b1 : (t657 != 0) = true := bne_iff_ne.mpr c65
                              exact absurd H (by simp)
                          · rw [if_neg c64] at H
                            have c64b0 : (t653 == 0) = false := beq_eq_false_iff_ne.mpr c64
                            have c64b1 : (t653 != 0) = true := bne_iff_ne.mpr c64
                            exact absurd H (by simp)
                        · rw [if_neg c63] at H
                          have c63b0 : (t649 == 0) = false := beq_eq_false_iff_ne.mpr c63
                          have c63b1 : (t649 != 0) = true := bne_iff_ne.mpr c63
                          exact absurd H (by simp)
                      · rw [if_neg c62] at H
                        have c62b0 : (t645 == 0) = false := beq_eq_false_iff_ne.mpr c62
                        have c62b1 : (t645 != 0) = true := bne_iff_ne.mpr c62
                        exact absurd H (by simp)
                    · rw [if_neg c61] at H
                      have c61b0 : (t641 == 0) = false := beq_eq_false_iff_ne.mpr c61
                      have c61b1 : (t641 != 0) = true := bne_iff_ne.mpr c61
                      exact absurd H (by simp)

end Go.Proofs.Ytdaehflffecllaa.N
