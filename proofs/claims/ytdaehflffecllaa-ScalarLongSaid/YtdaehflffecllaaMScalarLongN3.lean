/- The law ScalarLong returns true whatever the input: N3 of its proof; no condition. (Joined by wip/shake.py.) -/
import Derived.Test.YtdaehflffecllaaMScalarLongNx0
import Derived.Test.YtdaehflffecllaaMScalarLongN1
import Derived.Test.YtdaehflffecllaaMScalarLongN2
import Derived.Test.YtdaehflffecllaaMScalarLongN0
namespace Go.Proofs.Ytdaehflffecllaa.N
open Go.RowKit Go.Proofs.YtdaehflffecllaaW.PrintWords Go.Proofs.YtdaehflffecllaaW.PrintLast Go.Proofs.YtdaehflffecllaaW.PrintMore
attribute [local go_sem] max2_int min2_int max_two min_two max_three min_three max_four min_four   -- for this text's walks alone
set_option linter.unusedVariables false
set_option linter.unusedSimpArgs false
mutual
def chicorylaw06_ScalarLong.j0 : Nat → List Int → Int → Bool → Int → Int → Option (Bool)
  | 0, _, _, _, _, _ => none
  | k + 1, x0, x1, x48, x1364000, x1364001 => if x48 = true then ((chicorylaw06_awake.f k).bind fun t1364 => (some t1364)) else ((scalar_Reduce.f k x0).bind fun bt1365 => (if 0 ≤ x1 then (if x1 ≤ (x0.length : Int) then ((scalar_Reduce.f k (x0.take (x1 : Int).toNat)).bind fun bt1369 => ((scalar_Reduce.f k (x0.drop (x1 : Int).toNat)).bind fun bt1373 => (chicorylaw06_ScalarLong.l0 k x1 bt1365.2 bt1369.2 bt1373.2 0 x1364000 x1364001 bt1365.1 bt1369.1 bt1373.1))) else (none)) else (none)))
def chicorylaw06_ScalarLong.l0 : Nat → Int → Int → Int → Int → Int → Int → Int → List Int → List Int → List Int → Option (Bool)
  | 0, _, _, _, _, _, _, _, _, _, _ => none
  | k + 1, x1, x8, x10, x12, x13, x1364000, x1364001, x1368000, x1372000, x1376000 => if x13 < x1 then ((scalar_Int.f k 256).bind fun t1376 => ((scalar_Mul.f k x1376000 t1376).bind fun t1377 => (chicorylaw06_ScalarLong.l0 k x1 x8 x10 x12 (wrap64 (x13 + 1)) x1364000 x1364001 x1368000 x1372000 t1377))) else ((scalar_Int.f k x1364000).bind fun t1378 => ((scalar_Int.f k x1364001).bind fun t1380 => ((scalar_Add.f k t1378 t1380).bind fun t1382 => ((scalar_Int.f k (wrap64 (x1364000 + x1364001))).bind fun t1383 => ((scalar_Equal.f k t1382 t1383).bind fun t1384 => (if t1384 = true then ((scalar_Mul.f k t1378 t1380).bind fun t1385 => ((scalar_Int.f k (wrap64 (x1364000 * x1364001))).bind fun t1386 => ((scalar_Equal.f k t1385 t1386).bind fun t1387 => (if t1387 = true then ((scalar_Equal.f k t1378 t1380).bind fun t1388 => (chicorylaw06_ScalarLong.j2 k x8 x10 x12 (t1388 != (x1364000 == x1364001)) x1368000 x1372000 x1376000)) else (chicorylaw06_ScalarLong.j2 k x8 x10 x12 true x1368000 x1372000 x1376000))))) else (chicorylaw06_ScalarLong.j2 k x8 x10 x12 true x1368000 x1372000 x1376000)))))))
def chicorylaw06_ScalarLong.j2 : Nat → Int → Int → Int → Bool → List Int → List Int → List Int → Option (Bool)
  | 0, _, _, _, _, _, _, _ => none
  | k + 1, x8, x10, x12, x117, x1368000, x1372000, x1376000 => if x117 = true then (some false) else (if x8 = 0 then (if x10 = 0 then (if x12 = 0 then ((scalar_Add.f k x1372000 x1376000).bind fun t1389 => ((scalar_Equal.f k x1368000 t1389).bind fun t1390 => (if t1390 = true then ((chicorylaw06_awake.f k).bind fun t1391 => (some t1391)) else (some false)))) else (some false)) else (some false)) else (some false))
end
def chicorylaw06_ScalarLong.f (k : Nat) (l0 : List Int) (a1 : Int) (a2_0 : Int) (a2_1 : Int) : Option (Bool) := if (l0.length : Int) > 128 then (chicorylaw06_ScalarLong.j0 k l0 a1 true a2_0 a2_1) else (if a1 < 0 then (chicorylaw06_ScalarLong.j0 k l0 a1 true a2_0 a2_1) else (if a1 > (l0.length : Int) then (chicorylaw06_ScalarLong.j0 k l0 a1 true a2_0 a2_1) else (if a2_0 < (-1073741824) then (chicorylaw06_ScalarLong.j0 k l0 a1 true a2_0 a2_1) else (if a2_0 > 1073741824 then (chicorylaw06_ScalarLong.j0 k l0 a1 true a2_0 a2_1) else (if a2_1 < (-1073741824) then (chicorylaw06_ScalarLong.j0 k l0 a1 true a2_0 a2_1) else (chicorylaw06_ScalarLong.j0 k l0 a1 (decide (a2_1 > 1073741824)) a2_0 a2_1))))))
def chicorylaw06_ScalarLong.T12 : Bool × List (List Nat × List Nat) := (true, [([], []), ([], []), ([0, 1], [0, 1]), ([], []), ([3], [3]), ([], []), ([5], [5]), ([4, 6], [4, 6]), ([7, 2], [7]), ([2, 8, 8], [2, 8]), ([9], [9]), ([10, 9], [10]), ([11], [11]), ([11], [11]), ([12, 13, 11, 11], [11, 12, 13]), ([11], [11]), ([15, 11], [11, 15]), ([11], [11]), ([17, 11], [11, 17]), ([16, 18, 11], [11, 16, 18]), ([19, 14, 11], [11, 19]), ([14, 20, 20, 11], [11, 14, 20]), ([21, 11], [11, 21]), ([11, 22], [11, 22]), ([23, 21], [23]), ([24], [24]), ([24], [24]), ([25, 26, 24, 24], [24, 25, 26]), ([24], [24]), ([28, 24], [24, 28]), ([24], [24]), ([30, 24], [24, 30]), ([29, 31, 24], [24, 29, 31]), ([27, 32, 24], [24, 27, 32]), ([24, 33], [24, 33])])
def chicorylaw06_ScalarLong.B12 : List Nat := [0, 0, 3, 0, 8, 0, 32, 120, 255, 511, 1023, 2047, 4095, 4095, 16383, 4095, 36863, 4095, 135167, 495615, 1048575, 2097151, 4194303, 8388607, 16777215, 33554431, 33554431, 134217727, 33554431, 301989887, 33554431, 1107296255, 4060086271, 8589934591, 17179869183]
theorem chicorylaw06_ScalarLong.tab12 : rtab .any (opsOf Try.f20 12) = chicorylaw06_ScalarLong.T12 := by kernel_rfl
theorem chicorylaw06_ScalarLong.bits12 : waitsOk chicorylaw06_ScalarLong.T12.2 chicorylaw06_ScalarLong.B12 = true := by kernel_rfl
def chicorylaw06_ScalarLong.T14 : Bool × List (List Nat × List Nat) := (true, [([], []), ([0], [0]), ([1], [1]), ([2], [2]), ([3, 2], [2, 3]), ([2, 4], [2, 4]), ([5, 2], [5]), ([6], [6]), ([7, 6], [6, 7]), ([6, 8], [6, 8]), ([9, 6], [9]), ([10], [10]), ([10], [10]), ([10], [10]), ([12, 13, 10, 10], [10, 12, 13]), ([11, 14, 14, 10], [10, 11, 14]), ([10, 15], [10, 15]), ([16, 15], [16]), ([17, 17], [17]), ([17, 18], [17, 18]), ([19, 18, 0, 1, 2, 3, 4, 5, 6, 7, 8, 9, 10, 11, 12, 13, 14, 15, 16, 17, 18, 19], [19])])
def chicorylaw06_ScalarLong.B14 : List Nat := [0, 1, 3, 7, 15, 31, 63, 127, 255, 511, 1023, 2047, 2047, 2047, 14335, 32767, 65535, 131071, 262143, 524287, 1048575]
theorem chicorylaw06_ScalarLong.tab14 : rtab .any (opsOf Try.f20 14) = chicorylaw06_ScalarLong.T14 := by kernel_rfl
theorem chicorylaw06_ScalarLong.bits14 : waitsOk chicorylaw06_ScalarLong.T14.2 chicorylaw06_ScalarLong.B14 = true := by kernel_rfl
set_option maxHeartbeats 8000000 in
set_option maxRecDepth 100000 in
theorem chicorylaw06_ScalarLong.calls (k : Nat) (A0 : Option Addr) (c0 : Nat) (l0 : List Int) (a1 : Int) (a2_0 : Int) (a2_1 : Int) (w : World) (hr0 : Kd.C (Kd.int .u8) w A0 l0.length l0) (hc0 : l0.length ≤ c0) (h : chicorylaw06_ScalarLong.f k l0 a1 a2_0 a2_1 = some true) :
    Calls Try.prog 20 #[.slice A0 l0.length c0, .int .i64 a1, .agg #[.int .i64 a2_0, .int .i64 a2_1]] w fun e w' => e = .returned (.bool true) ∧ Below w.heap.size w w' := by
  have hu63 := Try.underlying63
  have hu73 := Try.underlying73
  have HR0 := Aside0.mk hr0
  have HC0 := Aside0.mk hc0
  clear hr0 hc0
  have HB := Aside0.mk (Below.refl w.heap.size w)
  have H : (if (l0.length : Int) > 128 then (chicorylaw06_ScalarLong.j0 k l0 a1 true a2_0 a2_1) else (if a1 < 0 then (chicorylaw06_ScalarLong.j0 k l0 a1 true a2_0 a2_1) else (if a1 > (l0.length : Int) then (chicorylaw06_ScalarLong.j0 k l0 a1 true a2_0 a2_1) else (if a2_0 < (-1073741824) then (chicorylaw06_ScalarLong.j0 k l0 a1 true a2_0 a2_1) else (if a2_0 > 1073741824 then (chicorylaw06_ScalarLong.j0 k l0 a1 true a2_0 a2_1) else (if a2_1 < (-1073741824) then (chicorylaw06_ScalarLong.j0 k l0 a1 true a2_0 a2_1) else (chicorylaw06_ScalarLong.j0 k l0 a1 (decide (a2_1 > 1073741824)) a2_0 a2_1))))))) = some true := h
  clear h
  have HC4 := Aside0.mk H
  clear H
  go_enter Try.func20, Try.ntmps20
  go_upto_region 1 with (first | ((with_reducible refine gate_dst (N := 5) rfl ?_); (try (refine gate_guard (by rfl) ?_; dsimp only)); refine box_event ?hg (N := 5) ?hd (cs := #[.int .i64 a2_0, .int .i64 a2_1]) (t := 63) ?hr ?_; (case hd => rfl); (case hg => rfl); (case hr => first | (go_simp; done) | (go_simp; rfl)); intro gb1363 hg w5 hbox hb; have n0_ := Aside0.mk (below_step (by repeat (first | (with_reducible first | exact HB.out | apply below_alloc | apply pw_below_drewN | apply below_drew1) | exact HB.out)) hb); have n1_ := Aside0.mk (hbox); have n2_ := Aside0.mk ((by rw [hg]; exact (below_size (by repeat (first | (with_reducible first | exact HB.out | apply below_alloc | apply pw_below_drewN | apply below_drew1) | exact HB.out))) : w.heap.size ≤ gb1363)); have n3_ := Aside0.mk ((by rw [hg]; exact (below_size (by repeat (first | (with_reducible first | exact HB.out | apply below_alloc | apply pw_below_drewN | apply below_drew1) | exact HB.out))) : w.heap.size ≤ gb1363)); clear HB; have HB := n0_; have BK1363 := n1_; have GW1363 := n2_; have GE1363 := n3_; clear n0_ n1_ n2_ n3_; clear hb hbox hg))
  (try simp only [Act.put, List.setIfInBounds_toArray, List.set_cons_zero, List.set_cons_succ])
  go_cut [48] (fun v48 wc => ∃ (kq : Nat) (x48_3 : Bool), v48 = .bool x48_3 ∧ Aside0 (chicorylaw06_ScalarLong.j0 kq l0 a1 x48_3 a2_0 a2_1 = some true) ∧ Aside0 (kq ≤ k) ∧ Aside0 (wc.heap[gb1363]? = some (.cells #[.int .i64 a2_0, .int .i64 a2_1] 63 (0, 0))) ∧ Aside0 (Below w.heap.size w wc))
  case first =>
    have H := HC4.out
    clear HC4
    by_cases c6 : (l0.length : Int) > 128
    · rw [if_pos c6] at H
      have c6b0 : decide (128 < (l0.length : Int)) = true := decide_eq_true c6
      have c6b1 : decide (128 < l0.length) = true := decide_eq_true (by omega)
      clear c6
      (first | rw [c6b0] | (simp only [i64_w, i32_w]; rw [c6b0]) | skip)
      have H' := Aside0.mk H
      clear H
      go_wp2
      go_meet
      case rel => exact ⟨_, (true), (by first | rfl | (simp; done) | (simp [*]; done)), H', ⟨by first | omega | exact Nat.le_refl _⟩, ⟨by (with_reducible repeat (first | refine blk_drewN ?_ _ | refine blk_drew ?_ | refine blk_alloc ?_ _)); exact BK1363.out⟩, ⟨by repeat (first | (with_reducible first | exact HB.out | apply below_alloc | apply pw_below_drewN | apply below_drew1 | refine below_set ?_ GE1363.out) | exact HB.out)⟩⟩
    · rw [if_neg c6] at H
      have c6b0 : decide (128 < (l0.length : Int)) = false := decide_eq_false c6
      have c6b1 : decide (128 < l0.length) = false := decide_eq_false (by omega)
      clear c6
      (first | rw [c6b0] | (simp only [i64_w, i32_w]; rw [c6b0]) | skip)
      by_cases c7 : a1 < 0
      · rw [if_pos c7] at H
        have c7b0 : decide (a1 < 0) = true := decide_eq_true c7
        clear c7
        have H' := Aside0.mk H
        clear H
        go_wp2
        go_meet
        case rel => exact ⟨_, (true), (by first | rfl | (simp; done) | (simp [*]; done)), H', ⟨by first | omega | exact Nat.le_refl _⟩, ⟨by (with_reducible repeat (first | refine blk_drewN ?_ _ | refine blk_drew ?_ | refine blk_alloc ?_ _)); exact BK1363.out⟩, ⟨by repeat (first | (with_reducible first | exact HB.out | apply below_alloc | apply pw_below_drewN | apply below_drew1 | refine below_set ?_ GE1363.out) | exact HB.out)⟩⟩
      · rw [if_neg c7] at H
        have c7b0 : decide (a1 < 0) = false := decide_eq_false c7
        clear c7
        by_cases c8 : a1 > (l0.length : Int)
        · rw [if_pos c8] at H
          have c8b0 : decide ((l0.length : Int) < a1) = true := decide_eq_true c8
          clear c8
          have H' := Aside0.mk H
          clear H
          go_wp2
          go_meet
          case rel => exact ⟨_, (true), (by first | rfl | (simp; done) | (simp [*]; done)), H', ⟨by first | omega | exact Nat.le_refl _⟩, ⟨by (with_reducible repeat (first | refine blk_drewN ?_ _ | refine blk_drew ?_ | refine blk_alloc ?_ _)); exact BK1363.out⟩, ⟨by repeat (first | (with_reducible first | exact HB.out | apply below_alloc | apply pw_below_drewN | apply below_drew1 | refine below_set ?_ GE1363.out) | exact HB.out)⟩⟩
        · rw [if_neg c8] at H
          have c8b0 : decide ((l0.length : Int) < a1) = false := decide_eq_false c8
          clear c8
          by_cases c9 : a2_0 < (-1073741824)
          · rw [if_pos c9] at H
            have c9b0 : decide (a2_0 < (-1073741824)) = true := decide_eq_true c9
            clear c9
            have H' := Aside0.mk H
            clear H
            have hcz10_0 : w5.cell? ⟨gb1363, 0, none⟩ = some (.int .i64 a2_0) := (blk_cell BK1363.out 0).trans rfl
            have hcz10_1 : w5.cell? ⟨gb1363, 1, none⟩ = some (.int .i64 a2_1) := (blk_cell BK1363.out 1).trans rfl
            have hfz10_0 := blk_frozen BK1363.out 0
            have hfz10_1 := blk_frozen BK1363.out 1
            go_wp2
            go_meet
            case rel => exact ⟨_, (true), (by first | rfl | (simp; done) | (simp [*]; done)), H', ⟨by first | omega | exact Nat.le_refl _⟩, ⟨by (with_reducible repeat (first | refine blk_drewN ?_ _ | refine blk_drew ?_ | refine blk_alloc ?_ _)); exact BK1363.out⟩, ⟨by repeat (first | (with_reducible first | exact HB.out | apply below_alloc | apply pw_below_drewN | apply below_drew1 | refine below_set ?_ GE1363.out) | exact HB.out)⟩⟩
          · rw [if_neg c9] at H
            have c9b0 : decide (a2_0 < (-1073741824)) = false := decide_eq_false c9
            clear c9
            by_cases c11 : a2_0 > 1073741824
            · rw [if_pos c11] at H
              have c11b0 : decide (1073741824 < a2_0) = true := decide_eq_true c11
              clear c11
              have H' := Aside0.mk H
              clear H
              have hcz12_0 : w5.cell? ⟨gb1363, 0, none⟩ = some (.int .i64 a2_0) := (blk_cell BK1363.out 0).trans rfl
              have hcz12_1 : w5.cell? ⟨gb1363, 1, none⟩ = some (.int .i64 a2_1) := (blk_cell BK1363.out 1).trans rfl
              have hfz12_0 := blk_frozen BK1363.out 0
              have hfz12_1 := blk_frozen BK1363.out 1
              go_wp2
              go_meet
              case rel => exact ⟨_, (true), (by first | rfl | (simp; done) | (simp [*]; done)), H', ⟨by first | omega | exact Nat.le_refl _⟩, ⟨by (with_reducible repeat (first | refine blk_drewN ?_ _ | refine blk_drew ?_ | refine blk_alloc ?_ _)); exact BK1363.out⟩, ⟨by repeat (first | (with_reducible first | exact HB.out | apply below_alloc | apply pw_below_drewN | apply below_drew1 | refine below_set ?_ GE1363.out) | exact HB.out)⟩⟩
            · rw [if_neg c11] at H
              have c11b0 : decide (1073741824 < a2_0) = false := decide_eq_false c11
              clear c11
              by_cases c13 : a2_1 < (-1073741824)
              · rw [if_pos c13] at H
                have c13b0 : decide (a2_1 < (-1073741824)) = true := decide_eq_true c13
                clear c13
                have H' := Aside0.mk H
                clear H
                have hcz14_0 : w5.cell? ⟨gb1363, 0, none⟩ = some (.int .i64 a2_0) := (blk_cell BK1363.out 0).trans rfl
                have hcz14_1 : w5.cell? ⟨gb1363, 1, none⟩ = some (.int .i64 a2_1) := (blk_cell BK1363.out 1).trans rfl
                have hfz14_0 := blk_frozen BK1363.out 0
                have hfz14_1 := blk_frozen BK1363.out 1
                go_wp2
                go_meet
                case rel => exact ⟨_, (true), (by first | rfl | (simp; done) | (simp [*]; done)), H', ⟨by first | omega | exact Nat.le_refl _⟩, ⟨by (with_reducible repeat (first | refine blk_drewN ?_ _ | refine blk_drew ?_ | refine blk_alloc ?_ _)); exact BK1363.out⟩, ⟨by repeat (first | (with_reducible first | exact HB.out | apply below_alloc | apply pw_below_drewN | apply below_drew1 | refine below_set ?_ GE1363.out) | exact HB.out)⟩⟩
              · rw [if_neg c13] at H
                have c13b0 : decide (a2_1 < (-1073741824)) = false := decide_eq_false c13
                clear c13
                have H' := Aside0.mk H
                clear H
                have hcz15_0 : w5.cell? ⟨gb1363, 0, none⟩ = some (.int .i64 a2_0) := (blk_cell BK1363.out 0).trans rfl
                have hcz15_1 : w5.cell? ⟨gb1363, 1, none⟩ = some (.int .i64 a2_1) := (blk_cell BK1363.out 1).trans rfl
                have hfz15_0 := blk_frozen BK1363.out 0
                have hfz15_1 := blk_frozen BK1363.out 1
                go_wp2
                go_meet
                case rel => exact ⟨_, (decide (a2_1 > 1073741824)), (by first | rfl | (simp; done) | (simp [*]; done)), H', ⟨by first | omega | exact Nat.le_refl _⟩, ⟨by (with_reducible repeat (first | refine blk_drewN ?_ _ | refine blk_drew ?_ | refine blk_alloc ?_ _)); exact BK1363.out⟩, ⟨by repeat (first | (with_reducible first | exact HB.out | apply below_alloc | apply pw_below_drewN | apply below_drew1 | refine below_set ?_ GE1363.out) | exact HB.out)⟩⟩
  case rest =>
    clear HC4
    try clear c1
    try clear c2
    try clear p2
    try clear c6
    try clear c6b0
    try clear c6b1
    try clear c7
    try clear c7b0
    try clear c8
    try clear c8b0
    try clear c9
    try clear c9b0
    try clear c11
    try clear c11b0
    try clear c13
    try clear c13b0
    try clear hcz10_0
    try clear hcz10_1
    try clear hcz12_0
    try clear hcz12_1
    try clear hcz14_0
    try clear hcz14_1
    try clear hcz15_0
    try clear hcz15_1
    try clear hfz10_0
    try clear hfz10_1
    try clear hfz12_0
    try clear hfz12_1
    try clear hfz14_0
    try clear hfz14_1
    try clear hfz15_0
    try clear hfz15_1
    obtain ⟨kq, x48_3, rfl, HA, HJ3, BK1363, HB⟩ := hcut
    cases kq with
    | zero => exact absurd HA.out (by simp [chicorylaw06_ScalarLong.j0])
    | succ kj3 =>
      have H := HA.out
      clear HA
      simp only [chicorylaw06_ScalarLong.j0] at H
      by_cases c16 : x48_3 = true
      · subst c16
        have H1 : ((chicorylaw06_awake.f kj3).bind fun t1364 => (some t1364)) = some true := by rw [if_pos rfl] at H; exact H
        clear H
        have H := H1
        clear H1
        replace H := Option.bind_eq_some_iff.mp H
        obtain ⟨t1364, A170, H⟩ := H
        replace H : (some t1364) = some true := H
        have A17 := Aside0.mk A170
        clear A170
        obtain rfl := Option.some.inj H
        go_wp2_with (first | ((with_reducible refine gate_callee (f := 71) rfl ?_); refine goesL_ (some 49) rfl rfl Try.func71 (by kernel_rfl) rfl #[] rfl (by (try simp only [List.map_toArray, List.map_cons, List.map_nil]); first | done | rfl | (simp only [List.length_drop, List.length_take]; rfl)) ?_; (with_reducible refine (chicorylaw06_awake.calls kj3  true _ A17.out).mono ?_); rintro e w18 ⟨rfl, hb⟩; refine ⟨_, rfl, ?_⟩; have n0_ := Aside0.mk (blk_below (g := gb1363) (o := .cells #[.int .i64 a2_0, .int .i64 a2_1] 63 (0, 0)) (by (with_reducible repeat (first | refine blk_drewN ?_ _ | refine blk_drew ?_ | refine blk_alloc ?_ _)); exact BK1363.out) hb); have n1_ := Aside0.mk (below_step (by repeat (first | (with_reducible first | exact HB.out | apply below_alloc | apply pw_below_drewN | apply below_drew1 | refine below_set ?_ GE1363.out) | exact HB.out)) hb); clear BK1363; clear HB; have BK1363 := n0_; have HB := n1_; clear n0_ n1_; (try clear hb); (try clear hb2); (try clear hk); (try clear hi)))
        go_ret
        exact ⟨by first | rfl | (simp [errW_none, errW_some] <;> rfl) | (simp [*, errW_none, errW_some] <;> rfl), by repeat (first | (with_reducible first | exact HB.out | apply below_alloc | apply pw_below_drewN | apply below_drew1 | refine below_set ?_ GE1363.out) | exact HB.out)⟩
      · replace c16 := Bool.eq_false_iff.mpr c16
        subst c16
        have H1 : ((scalar_Reduce.f kj3 l0).bind fun bt1365 => (if 0 ≤ a1 then (if a1 ≤ (l0.length : Int) then ((scalar_Reduce.f kj3 (l0.take (a1 : Int).toNat)).bind fun bt1369 => ((scalar_Reduce.f kj3 (l0.drop (a1 : Int).toNat)).bind fun bt1373 => (chicorylaw06_ScalarLong.l0 kj3 a1 bt1365.2 bt1369.2 bt1373.2 0 a2_0 a2_1 bt1365.1 bt1369.1 bt1373.1))) else (none)) else (none))) = some true := by rw [if_neg (show ¬ (false = true) by decide)] at H; exact H
        clear H
        have H := H1
        clear H1
        replace H := Option.bind_eq_some_iff.mp H
        obtain ⟨⟨t1365, t1366⟩, A190, H⟩ := H
        replace H : (if 0 ≤ a1 then (if a1 ≤ (l0.length : Int) then ((scalar_Reduce.f kj3 (l0.take (a1 : Int).toNat)).bind fun bt1369 => ((scalar_Reduce.f kj3 (l0.drop (a1 : Int).toNat)).bind fun bt1373 => (chicorylaw06_ScalarLong.l0 kj3 a1 t1366 bt1369.2 bt1373.2 0 a2_0 a2_1 t1365 bt1369.1 bt1373.1))) else (none)) else (none)) = some true := H
        have A19 := Aside0.mk A190
        clear A190
        by_cases c20 : 0 ≤ a1
        · rw [if_pos c20] at H
          have c20b0 := eq_true c20
          have c20b1 : decide (0 ≤ a1) = true := decide_eq_true c20
          clear c20
          by_cases c21 : a1 ≤ (l0.length : Int)
          · rw [if_pos c21] at H
            have c21b0 := eq_true c21
            have c21b1 : decide (a1 ≤ (l0.length : Int)) = true := decide_eq_true c21
            clear c21
            replace H := Option.bind_eq_some_iff.mp H
            obtain ⟨⟨t1369, t1370⟩, A220, H⟩ := H
            replace H : ((scalar_Reduce.f kj3 (l0.drop (a1 : Int).toNat)).bind fun bt1373 => (chicorylaw06_ScalarLong.l0 kj3 a1 t1366 t1370 bt1373.2 0 a2_0 a2_1 t1365 t1369 bt1373.1)) = some true := H
            have A22 := Aside0.mk A220
            clear A220
            have c23b0 := eq_true (of_decide_eq_true (by first | (with_reducible assumption) | assumption) : 0 ≤ a1)
            have c24b0 := eq_true (of_decide_eq_true (by first | (with_reducible assumption) | assumption) : a1 ≤ (l0.length : Int))
            replace H := Option.bind_eq_some_iff.mp H
            obtain ⟨⟨t1373, t1374⟩, A250, H⟩ := H
            replace H : (chicorylaw06_ScalarLong.l0 kj3 a1 t1366 t1370 t1374 0 a2_0 a2_1 t1365 t1369 t1373) = some true := H
            have A25 := Aside0.mk A250
            clear A250
            have H' := Aside0.mk H
            clear H
            go_wp2_with (first | ((with_reducible refine gate_callee (f := 80) rfl ?_); refine goesL_ (some 52) rfl rfl Try.func80 (by kernel_rfl) rfl #[.slice A0 l0.length c0] rfl (by (try simp only [List.map_toArray, List.map_cons, List.map_nil]); first | done | rfl | (simp only [List.length_drop, List.length_take]; rfl)) ?_; (with_reducible refine (scalar_Reduce.calls kj3 _ _ l0 t1365 t1366 _ ?side1 ?side2 A19.out).mono ?_); (case side1 => repeat (first | exact (Kd.C_below HR0.out HB.out) | (with_reducible refine Kd.C_alloc ?_ _) | (with_reducible refine Kd.C_drewN ?_ _) | (with_reducible refine Kd.C_drew ?_))); (case side2 => exact HC0.out); rintro e w26 ⟨rfl, hb⟩; refine ⟨_, rfl, ?_⟩; have n0_ := Aside0.mk (blk_below (g := gb1363) (o := .cells #[.int .i64 a2_0, .int .i64 a2_1] 63 (0, 0)) (by (with_reducible repeat (first | refine blk_drewN ?_ _ | refine blk_drew ?_ | refine blk_alloc ?_ _)); exact BK1363.out) hb); have n1_ := Aside0.mk (below_step (by repeat (first | (with_reducible first | exact HB.out | apply below_alloc | apply pw_below_drewN | apply below_drew1 | refine below_set ?_ GE1363.out) | exact HB.out)) hb); clear BK1363; clear HB; have BK1363 := n0_; have HB := n1_; clear n0_ n1_; (try clear hb); (try clear hb2); (try clear hk); (try clear hi)) | ((with_reducible refine gate_dst (N := 7) rfl ?_); (try (refine gate_guard (by rfl) ?_; dsimp only)); refine box_event ?hg (N := 7) ?hd (cs := zv) (t := 73) ?hr ?_; (case hd => rfl); (case hg => rfl); (case hr => first | (go_simp; done) | (go_simp; rfl)); intro gb1367 hg w27 hbox hb; have n0_ := Aside0.mk (blk_below (g := gb1363) (o := .cells #[.int .i64 a2_0, .int .i64 a2_1] 63 (0, 0)) (by (with_reducible repeat (first | refine blk_drewN ?_ _ | refine blk_drew ?_ | refine blk_alloc ?_ _)); exact BK1363.out) hb); have n1_ := Aside0.mk (below_step (by repeat (first | (with_reducible first | exact HB.out | apply below_alloc | apply pw_below_drewN | apply below_drew1 | refine below_set ?_ GE1363.out) | exact HB.out)) hb); have n2_ := Aside0.mk (hbox); have n3_ := Aside0.mk ((by rw [hg]; exact (below_size (by repeat (first | (with_reducible first | exact HB.out | apply below_alloc | apply pw_below_drewN | apply below_drew1 | refine below_set ?_ GE1363.out) | exact HB.out))) : w.heap.size ≤ gb1367)); have n4_ := Aside0.mk ((by rw [hg]; exact (below_size (by repeat (first | (with_reducible first | exact HB.out | apply below_alloc | apply pw_below_drewN | apply below_drew1 | refine below_set ?_ GE1363.out) | exact HB.out))) : w.heap.size ≤ gb1367)); have n5_ := Aside0.mk ((by rw [hg]; exact Nat.ne_of_lt (blk_lt (g := gb1363) (o := .cells #[.int .i64 a2_0, .int .i64 a2_1] 63 (0, 0)) (by (with_reducible repeat (first | refine blk_drewN ?_ _ | refine blk_drew ?_ | refine blk_alloc ?_ _)); exact BK1363.out)) : gb1363 ≠ gb1367)); have n6_ := Aside0.mk ((by rw [hg]; exact Nat.ne_of_gt (blk_lt (g := gb1363) (o := .cells #[.int .i64 a2_0, .int .i64 a2_1] 63 (0, 0)) (by (with_reducible repeat (first | refine blk_drewN ?_ _ | refine blk_drew ?_ | refine blk_alloc ?_ _)); exact BK1363.out)) : gb1367 ≠ gb1363)); clear BK1363; clear HB; have BK1363 := n0_; have HB := n1_; have BK1367 := n2_; have GW1367 := n3_; have GE1367 := n4_; have NB1363_1367 := n5_; have NB1367_1363 := n6_; clear n0_ n1_ n2_ n3_ n4_ n5_ n6_; clear hb hbox hg; have hnb28 := NB1367_1363.out; have hnc28 := NB1363_1367.out; obtain ⟨hcz29_0, hcz29_0_c1, hcz29_0_c2, hcz29_0_c3, hcz29_0_c4, hcz29_0_c5, hcz29_0_c6⟩ := c7_of (a := z7) BK1367.out rfl; obtain ⟨hfz29_0, hfz29_0_c1, hfz29_0_c2, hfz29_0_c3, hfz29_0_c4, hfz29_0_c5, hfz29_0_c6⟩ := fz7 BK1367.out; obtain ⟨i030, hi030, _, hsz30, _⟩ := info_parts info5; obtain ⟨hcut30, hA30, hC30⟩ := print_take_of (P := Try.prog) (Value.int .u8) 0 22 5 .i64 Try.underlying22 hi030 hsz30 A0 c0 l0 a1 (of_decide_eq_true (by first | (with_reducible assumption) | assumption)) (of_decide_eq_true (by first | (with_reducible assumption) | assumption)) HC0.out; have HR1368 := Aside0.mk (Kd.C_of_reads (h1 := fun _ => rfl) (hA30 _ (Kd.reads_of_C HR0.out))); have HC1368 := Aside0.mk hC30; clear hA30 hC30 hi030 hsz30) | ((with_reducible refine gate_callee (f := 80) rfl ?_); refine goesL_ (some 59) rfl rfl Try.func80 (by kernel_rfl) rfl #[.slice A0 (l0.take (a1 : Int).toNat).length c0] rfl (by (try simp only [List.map_toArray, List.map_cons, List.map_nil]); first | done | (rw [show (l0.take (a1 : Int).toNat).length = a1.toNat from (by rw [List.length_take]; have h_ : (a1 : Int) ≤ (l0.length : Int) := of_decide_eq_true (by first | (with_reducible assumption) | assumption); omega)] <;> rfl) | rfl | (simp only [List.length_drop, List.length_take]; rfl)) ?_; (with_reducible refine (scalar_Reduce.calls kj3 _ _ (l0.take (a1 : Int).toNat) t1369 t1370 _ ?side1 ?side2 A22.out).mono ?_); (case side1 => exact Kd.C_below HR1368.out (by repeat (first | (with_reducible first | exact HB.out | apply below_alloc | apply pw_below_drewN | apply below_drew1 | refine below_set ?_ GE1363.out | refine below_set ?_ GE1367.out) | exact HB.out))); (case side2 => exact HC1368.out); rintro e w31 ⟨rfl, hb⟩; refine ⟨_, rfl, ?_⟩; have n0_ := Aside0.mk (blk_below (g := gb1363) (o := .cells #[.int .i64 a2_0, .int .i64 a2_1] 63 (0, 0)) (by (with_reducible repeat (first | refine blk_drewN ?_ _ | refine blk_drew ?_ | refine blk_alloc ?_ _)); refine blk_far7 ?_ NB1363_1367.out; (with_reducible repeat (first | refine blk_drewN ?_ _ | refine blk_drew ?_ | refine blk_alloc ?_ _)); exact BK1363.out) hb); have n1_ := Aside0.mk (blk_below (g := gb1367) (o := .cells (sv t1365) 73 (0, 0)) (by (with_reducible repeat (first | refine blk_drewN ?_ _ | refine blk_drew ?_ | refine blk_alloc ?_ _)); refine blk_put7z ?_; (with_reducible repeat (first | refine blk_drewN ?_ _ | refine blk_drew ?_ | refine blk_alloc ?_ _)); exact BK1367.out) hb); have n2_ := Aside0.mk (below_step (by repeat (first | (with_reducible first | exact HB.out | apply below_alloc | apply pw_below_drewN | apply below_drew1 | refine below_set ?_ GE1363.out | refine below_set ?_ GE1367.out) | exact HB.out)) hb); clear BK1363; clear BK1367; clear HB; have BK1363 := n0_; have BK1367 := n1_; have HB := n2_; clear n0_ n1_ n2_; (try clear hb); (try clear hb2); (try clear hk); (try clear hi)) | ((with_reducible refine gate_dst (N := 9) rfl ?_); (try (refine gate_guard (by rfl) ?_; dsimp only)); refine box_event ?hg (N := 9) ?hd (cs := zv) (t := 73) ?hr ?_; (case hd => rfl); (case hg => rfl); (case hr => first | (go_simp; done) | (go_simp; rfl)); intro gb1371 hg w32 hbox hb; have n0_ := Aside0.mk (blk_below (g := gb1363) (o := .cells #[.int .i64 a2_0, .int .i64 a2_1] 63 (0, 0)) (by (with_reducible repeat (first | refine blk_drewN ?_ _ | refine blk_drew ?_ | refine blk_alloc ?_ _)); exact BK1363.out) hb); have n1_ := Aside0.mk (blk_below (g := gb1367) (o := .cells (sv t1365) 73 (0, 0)) (by (with_reducible repeat (first | refine blk_drewN ?_ _ | refine blk_drew ?_ | refine blk_alloc ?_ _)); exact BK1367.out) hb); have n2_ := Aside0.mk (below_step (by repeat (first | (with_reducible first | exact HB.out | apply below_alloc | apply pw_below_drewN | apply below_drew1 | refine below_set ?_ GE1363.out | refine below_set ?_ GE1367.out) | exact HB.out)) hb); have n3_ := Aside0.mk (hbox); have n4_ := Aside0.mk ((by rw [hg]; exact (below_size (by repeat (first | (with_reducible first | exact HB.out | apply below_alloc | apply pw_below_drewN | apply below_drew1 | refine below_set ?_ GE1363.out | refine below_set ?_ GE1367.out) | exact HB.out))) : w.heap.size ≤ gb1371)); have n5_ := Aside0.mk ((by rw [hg]; exact (below_size (by repeat (first | (with_reducible first | exact HB.out | apply below_alloc | apply pw_below_drewN | apply below_drew1 | refine below_set ?_ GE1363.out | refine below_set ?_ GE1367.out) | exact HB.out))) : w.heap.size ≤ gb1371)); have n6_ := Aside0.mk ((by rw [hg]; exact Nat.ne_of_lt (blk_lt (g := gb1363) (o := .cells #[.int .i64 a2_0, .int .i64 a2_1] 63 (0, 0)) (by (with_reducible repeat (first | refine blk_drewN ?_ _ | refine blk_drew ?_ | refine blk_alloc ?_ _)); exact BK1363.out)) : gb1363 ≠ gb1371)); have n7_ := Aside0.mk ((by rw [hg]; exact Nat.ne_of_gt (blk_lt (g := gb1363) (o := .cells #[.int .i64 a2_0, .int .i64 a2_1] 63 (0, 0)) (by (with_reducible repeat (first | refine blk_drewN ?_ _ | refine blk_drew ?_ | refine blk_alloc ?_ _)); exact BK1363.out)) : gb1371 ≠ gb1363)); have n8_ := Aside0.mk ((by rw [hg]; exact Nat.ne_of_lt (blk_lt (g := gb1367) (o := .cells (sv t1365) 73 (0, 0)) (by (with_reducible repeat (first | refine blk_drewN ?_ _ | refine blk_drew ?_ | refine blk_alloc ?_ _)); exact BK1367.out)) : gb1367 ≠ gb1371)); have n9_ := Aside0.mk ((by rw [hg]; exact Nat.ne_of_gt (blk_lt (g := gb1367) (o := .cells (sv t1365) 73 (0, 0)) (by (with_reducible repeat (first | refine blk_drewN ?_ _ | refine blk_drew ?_ | refine blk_alloc ?_ _)); exact BK1367.out)) : gb1371 ≠ gb1367)); clear BK1363; clear BK1367; clear HB; have BK1363 := n0_; have BK1367 := n1_; have HB := n2_; have BK1371 := n3_; have GW1371 := n4_; have GE1371 := n5_; have NB1363_1371 := n6_; have NB1371_1363 := n7_; have NB1367_1371 := n8_; have NB1371_1367 := n9_; clear n0_ n1_ n2_ n3_ n4_ n5_ n6_ n7_ n8_ n9_; clear hb hbox hg; have hnb33 := NB1371_1363.out; have hnc33 := NB1363_1371.out; have hnb34 := NB1371_1367.out; have hnc34 := NB1367_1371.out; obtain ⟨hcz35_0, hcz35_0_c1, hcz35_0_c2, hcz35_0_c3, hcz35_0_c4, hcz35_0_c5, hcz35_0_c6⟩ := c7_of (a := z7) BK1371.out rfl; obtain ⟨hfz35_0, hfz35_0_c1, hfz35_0_c2, hfz35_0_c3, hfz35_0_c4, hfz35_0_c5, hfz35_0_c6⟩ := fz7 BK1371.out; obtain ⟨i036, hi036, _, hsz36, _⟩ := info_parts info5; obtain ⟨A36, hcut36, hA36, hC36⟩ := print_drop_of (P := Try.prog) (Value.int .u8) 0 22 5 .i64 Try.underlying22 hi036 hsz36 A0 c0 l0 a1 (of_decide_eq_true (by first | (with_reducible assumption) | assumption)) (of_decide_eq_true (by first | (with_reducible assumption) | assumption)) HC0.out; have HR1372 := Aside0.mk (Kd.C_of_reads (h1 := fun _ => rfl) (hA36 _ (Kd.reads_of_C HR0.out))); have HC1372 := Aside0.mk hC36; clear hA36 hC36 hi036 hsz36) | ((with_reducible refine gate_callee (f := 80) rfl ?_); refine goesL_ (some 66) rfl rfl Try.func80 (by kernel_rfl) rfl #[.slice A36 (l0.drop (a1 : Int).toNat).length (c0 - a1.toNat)] rfl (by (try simp only [List.map_toArray, List.map_cons, List.map_nil]); first | done | (rw [show (l0.drop (a1 : Int).toNat).length = (l0.length - a1.toNat) from List.length_drop] <;> rfl) | rfl | (simp only [List.length_drop, List.length_take]; rfl)) ?_; (with_reducible refine (scalar_Reduce.calls kj3 _ _ (l0.drop (a1 : Int).toNat) t1373 t1374 _ ?side1 ?side2 A25.out).mono ?_); (case side1 => exact Kd.C_below HR1372.out (by repeat (first | (with_reducible first | exact HB.out | apply below_alloc | apply pw_below_drewN | apply below_drew1 | refine below_set ?_ GE1363.out | refine below_set ?_ GE1367.out | refine below_set ?_ GE1371.out) | exact HB.out))); (case side2 => exact HC1372.out); rintro e w37 ⟨rfl, hb⟩; refine ⟨_, rfl, ?_⟩; have n0_ := Aside0.mk (blk_below (g := gb1363) (o := .cells #[.int .i64 a2_0, .int .i64 a2_1] 63 (0, 0)) (by (with_reducible repeat (first | refine blk_drewN ?_ _ | refine blk_drew ?_ | refine blk_alloc ?_ _)); refine blk_far7 ?_ NB1363_1371.out; (with_reducible repeat (first | refine blk_drewN ?_ _ | refine blk_drew ?_ | refine blk_alloc ?_ _)); exact BK1363.out) hb); have n1_ := Aside0.mk (blk_below (g := gb1367) (o := .cells (sv t1365) 73 (0, 0)) (by (with_reducible repeat (first | refine blk_drewN ?_ _ | refine blk_drew ?_ | refine blk_alloc ?_ _)); refine blk_far7 ?_ NB1367_1371.out; (with_reducible repeat (first | refine blk_drewN ?_ _ | refine blk_drew ?_ | refine blk_alloc ?_ _)); exact BK1367.out) hb); have n2_ := Aside0.mk (blk_below (g := gb1371) (o := .cells (sv t1369) 73 (0, 0)) (by (with_reducible repeat (first | refine blk_drewN ?_ _ | refine blk_drew ?_ | refine blk_alloc ?_ _)); refine blk_put7z ?_; (with_reducible repeat (first | refine blk_drewN ?_ _ | refine blk_drew ?_ | refine blk_alloc ?_ _)); exact BK1371.out) hb); have n3_ := Aside0.mk (below_step (by repeat (first | (with_reducible first | exact HB.out | apply below_alloc | apply pw_below_drewN | apply below_drew1 | refine below_set ?_ GE1363.out | refine below_set ?_ GE1367.out | refine below_set ?_ GE1371.out) | exact HB.out)) hb); clear BK1363; clear BK1367; clear BK1371; clear HB; have BK1363 := n0_; have BK1367 := n1_; have BK1371 := n2_; have HB := n3_; clear n0_ n1_ n2_ n3_; (try clear hb); (try clear hb2); (try clear hk); (try clear hi)) | ((with_reducible refine gate_dst (N := 11) rfl ?_); (try (refine gate_guard (by rfl) ?_; dsimp only)); refine box_event ?hg (N := 11) ?hd (cs := zv) (t := 73) ?hr ?_; (case hd => rfl); (case hg => rfl); (case hr => first | (go_simp; done) | (go_simp; rfl)); intro gb1375 hg w38 hbox hb; have n0_ := Aside0.mk (blk_below (g := gb1363) (o := .cells #[.int .i64 a2_0, .int .i64 a2_1] 63 (0, 0)) (by (with_reducible repeat (first | refine blk_drewN ?_ _ | refine blk_drew ?_ | refine blk_alloc ?_ _)); exact BK1363.out) hb); have n1_ := Aside0.mk (blk_below (g := gb1367) (o := .cells (sv t1365) 73 (0, 0)) (by (with_reducible repeat (first | refine blk_drewN ?_ _ | refine blk_drew ?_ | refine blk_alloc ?_ _)); exact BK1367.out) hb); have n2_ := Aside0.mk (blk_below (g := gb1371) (o := .cells (sv t1369) 73 (0, 0)) (by (with_reducible repeat (first | refine blk_drewN ?_ _ | refine blk_drew ?_ | refine blk_alloc ?_ _)); exact BK1371.out) hb); have n3_ := Aside0.mk (below_step (by repeat (first | (with_reducible first | exact HB.out | apply below_alloc | apply pw_below_drewN | apply below_drew1 | refine below_set ?_ GE1363.out | refine below_set ?_ GE1367.out | refine below_set ?_ GE1371.out) | exact HB.out)) hb); have n4_ := Aside0.mk (hbox); have n5_ := Aside0.mk ((by rw [hg]; exact (below_size (by repeat (first | (with_reducible first | exact HB.out | apply below_alloc | apply pw_below_drewN | apply below_drew1 | refine below_set ?_ GE1363.out | refine below_set ?_ GE1367.out | refine below_set ?_ GE1371.out) | exact HB.out))) : w.heap.size ≤ gb1375)); have n6_ := Aside0.mk ((by rw [hg]; exact (below_size (by repeat (first | (with_reducible first | exact HB.out | apply below_alloc | apply pw_below_drewN | apply below_drew1 | refine below_set ?_ GE1363.out | refine below_set ?_ GE1367.out | refine below_set ?_ GE1371.out) | exact HB.out))) : w.heap.size ≤ gb1375)); have n7_ := Aside0.mk ((by rw [hg]; exact Nat.ne_of_lt (blk_lt (g := gb1363) (o := .cells #[.int .i64 a2_0, .int .i64 a2_1] 63 (0, 0)) (by (with_reducible repeat (first | refine blk_drewN ?_ _ | refine blk_drew ?_ | refine blk_alloc ?_ _)); exact BK1363.out)) : gb1363 ≠ gb1375)); have n8_ := Aside0.mk ((by rw [hg]; exact Nat.ne_of_gt (blk_lt (g := gb1363) (o := .cells #[.int .i64 a2_0, .int .i64 a2_1] 63 (0, 0)) (by (with_reducible repeat (first | refine blk_drewN ?_ _ | refine blk_drew ?_ | refine blk_alloc ?_ _)); exact BK1363.out)) : gb1375 ≠ gb1363)); have n9_ := Aside0.mk ((by rw [hg]; exact Nat.ne_of_lt (blk_lt (g := gb1367) (o := .cells (sv t1365) 73 (0, 0)) (by (with_reducible repeat (first | refine blk_drewN ?_ _ | refine blk_drew ?_ | refine blk_alloc ?_ _)); exact BK1367.out)) : gb1367 ≠ gb1375)); have n10_ := Aside0.mk ((by rw [hg]; exact Nat.ne_of_gt (blk_lt (g := gb1367) (o := .cells (sv t1365) 73 (0, 0)) (by (with_reducible repeat (first | refine blk_drewN ?_ _ | refine blk_drew ?_ | refine blk_alloc ?_ _)); exact BK1367.out)) : gb1375 ≠ gb1367)); have n11_ := Aside0.mk ((by rw [hg]; exact Nat.ne_of_lt (blk_lt (g := gb1371) (o := .cells (sv t1369) 73 (0, 0)) (by (with_reducible repeat (first | refine blk_drewN ?_ _ | refine blk_drew ?_ | refine blk_alloc ?_ _)); exact BK1371.out)) : gb1371 ≠ gb1375)); have n12_ := Aside0.mk ((by rw [hg]; exact Nat.ne_of_gt (blk_lt (g := gb1371) (o := .cells (sv t1369) 73 (0, 0)) (by (with_reducible repeat (first | refine blk_drewN ?_ _ | refine blk_drew ?_ | refine blk_alloc ?_ _)); exact BK1371.out)) : gb1375 ≠ gb1371)); clear BK1363; clear BK1367; clear BK1371; clear HB; have BK1363 := n0_; have BK1367 := n1_; have BK1371 := n2_; have HB := n3_; have BK1375 := n4_; have GW1375 := n5_; have GE1375 := n6_; have NB1363_1375 := n7_; have NB1375_1363 := n8_; have NB1367_1375 := n9_; have NB1375_1367 := n10_; have NB1371_1375 := n11_; have NB1375_1371 := n12_; clear n0_ n1_ n2_ n3_ n4_ n5_ n6_ n7_ n8_ n9_ n10_ n11_ n12_; clear hb hbox hg; have hnb39 := NB1375_1363.out; have hnc39 := NB1363_1375.out; have hnb40 := NB1375_1367.out; have hnc40 := NB1367_1375.out; have hnb41 := NB1375_1371.out; have hnc41 := NB1371_1375.out; obtain ⟨hcz42_0, hcz42_0_c1, hcz42_0_c2, hcz42_0_c3, hcz42_0_c4, hcz42_0_c5, hcz42_0_c6⟩ := c7_of (a := z7) BK1375.out rfl; obtain ⟨hfz42_0, hfz42_0_c1, hfz42_0_c2, hfz42_0_c3, hfz42_0_c4, hfz42_0_c5, hfz42_0_c6⟩ := fz7 BK1375.out))
            go_loopg [13] kj3 (fun kq v13 w' => ∃ (x13_2 : Int) (x1376000_2 : List Int), v13 = .int .i64 x13_2 ∧ Aside0 (chicorylaw06_ScalarLong.l0 kq a1 t1366 t1370 t1374 x13_2 a2_0 a2_1 t1365 t1369 x1376000_2 = some true) ∧ Aside0 (kq ≤ kj3) ∧ Aside0 (w'.heap[gb1363]? = some (.cells #[.int .i64 a2_0, .int .i64 a2_1] 63 (0, 0))) ∧ Aside0 (w'.heap[gb1367]? = some (.cells (sv t1365) 73 (0, 0))) ∧ Aside0 (w'.heap[gb1371]? = some (.cells (sv t1369) 73 (0, 0))) ∧ Aside0 (w'.heap[gb1375]? = some (.cells (sv x1376000_2) 73 (0, 0))) ∧ Aside0 (Below w.heap.size w w'))
            case atStart => exact ⟨(0), (t1373), (by first | rfl | (simp; done) | (simp [*]; done)), H', ⟨Nat.le_refl _⟩, ⟨by (with_reducible repeat (first | refine blk_drewN ?_ _ | refine blk_drew ?_ | refine blk_alloc ?_ _)); refine blk_far7 ?_ NB1363_1375.out; (with_reducible repeat (first | refine blk_drewN ?_ _ | refine blk_drew ?_ | refine blk_alloc ?_ _)); exact BK1363.out⟩, ⟨by (with_reducible repeat (first | refine blk_drewN ?_ _ | refine blk_drew ?_ | refine blk_alloc ?_ _)); refine blk_far7 ?_ NB1367_1375.out; (with_reducible repeat (first | refine blk_drewN ?_ _ | refine blk_drew ?_ | refine blk_alloc ?_ _)); exact BK1367.out⟩, ⟨by (with_reducible repeat (first | refine blk_drewN ?_ _ | refine blk_drew ?_ | refine blk_alloc ?_ _)); refine blk_far7 ?_ NB1371_1375.out; (with_reducible repeat (first | refine blk_drewN ?_ _ | refine blk_drew ?_ | refine blk_alloc ?_ _)); exact BK1371.out⟩, ⟨by (with_reducible repeat (first | refine blk_drewN ?_ _ | refine blk_drew ?_ | refine blk_alloc ?_ _)); refine blk_put7z ?_; (with_reducible repeat (first | refine blk_drewN ?_ _ | refine blk_drew ?_ | refine blk_alloc ?_ _)); exact BK1375.out⟩, ⟨by repeat (first | (with_reducible first | exact HB.out | apply below_alloc | apply pw_below_drewN | apply below_drew1 | refine below_set ?_ GE1363.out | refine below_set ?_ GE1367.out | refine below_set ?_ GE1371.out | refine below_set ?_ GE1375.out) | exact HB.out)⟩⟩
            case round =>
              clear H'
              try clear c1
              try clear c2
              try clear p2
              try clear c3
              try clear c4
              try clear c6
              try clear c6b0
              try clear c6b1
              try clear c7
              try clear c7b0
              try clear c8
              try clear c8b0
              try clear c9
              try clear c9b0
              try clear c11
              try clear c11b0
              try clear c13
              try clear c13b0
              try clear c16
              try clear c20
              try clear c20b0
              try clear c20b1
              try clear c21
              try clear c21b0
              try clear c21b1
              try clear c23
              try clear c23b0
              try clear c24
              try clear c24b0
              try clear c28
              try clear c33
              try clear c34
              try clear c39
              try clear c40
              try clear c41
              try clear hcz10_0
              try clear hcz10_1
              try clear hcz12_0
              try clear hcz12_1
              try clear hcz14_0
              try clear hcz14_1
              try clear hcz15_0
              try clear hcz15_1
              try clear hcz29_0
              try clear hcz35_0
              try clear hcz42_0
              try clear hfz10_0
              try clear hfz10_1
              try clear hfz12_0
              try clear hfz12_1
              try clear hfz14_0
              try clear hfz14_1
              try clear hfz15_0
              try clear hfz15_1
              try clear hfz29_0
              try clear hfz35_0
              try clear hfz42_0
              try clear p2
              obtain ⟨x13_2, x1376000_2, rfl, HA, HK2, BK1363, BK1367, BK1371, BK1375, HB⟩ := hrel
              cases gk with
              | zero => exact absurd HA.out (by simp [chicorylaw06_ScalarLong.l0])
              | succ k2 =>
                have H := HA.out
                clear HA
                simp only [chicorylaw06_ScalarLong.l0] at H
                by_cases c43 : x13_2 < a1
                · rw [if_pos c43] at H
                  have c43b0 : decide (x13_2 < a1) = true := decide_eq_true c43
                  clear c43
                  replace H := Option.bind_eq_some_iff.mp H
                  obtain ⟨t1376, A440, H⟩ := H
                  replace H : ((scalar_Mul.f k2 x1376000_2 t1376).bind fun t1377 => (chicorylaw06_ScalarLong.l0 k2 a1 t1366 t1370 t1374 (wrap64 (x13_2 + 1)) a2_0 a2_1 t1365 t1369 t1377)) = some true := H
                  have A44 := Aside0.mk A440
                  clear A440
                  replace H := Option.bind_eq_some_iff.mp H
                  obtain ⟨t1377, A450, H⟩ := H
                  replace H : (chicorylaw06_ScalarLong.l0 k2 a1 t1366 t1370 t1374 (wrap64 (x13_2 + 1)) a2_0 a2_1 t1365 t1369 t1377) = some true := H
                  have A45 := Aside0.mk A450
                  clear A450
                  have H' := Aside0.mk H
                  clear H
                  try go_wp2
                  have n0_ := Aside0.mk (blk_drew BK1363.out)
                  have n1_ := Aside0.mk (blk_drew BK1367.out)
                  have n2_ := Aside0.mk (blk_drew BK1371.out)
                  have n3_ := Aside0.mk (blk_drew BK1375.out)
                  have n4_ := Aside0.mk (below_drew1 HB.out)
                  clear BK1363
                  clear BK1367
                  clear BK1371
                  clear BK1375
                  clear HB
                  have BK1363 := n0_
                  have BK1367 := n1_
                  have BK1371 := n2_
                  have BK1375 := n3_
                  have HB := n4_
                  clear n0_ n1_ n2_ n3_ n4_
                  refine start_ (n := 4) (S := fun w' => c7 w' gb1375 x1376000_2) (ds := [3]) #[false, false, false, false] (by kernel_rfl) rfl rfl (c7_of BK1375.out rfl) (fun hHeld => ?_)
                  generalize wr.drew = w46 at BK1363 BK1367 BK1371 BK1375 HB hHeld ⊢
                  refine take_ (i := 0) (N := some 74) (v := ?_) (a' := ?_) #[true, false, false, false] rfl rfl (by kernel_rfl) (fun _ _ _ h => h) (Or.inl ⟨by rfl, ?_⟩) hHeld ?_ ?_
                  rotate_left
                  · rintro w' ⟨s0, s0_c1, s0_c2, s0_c3, s0_c4, s0_c5, s0_c6⟩
                    go_simp
                    with_reducible rfl
                  rotate_left
                  · simp only [Act.put, List.setIfInBounds_toArray, List.set_cons_zero, List.set_cons_succ, i64_w, i32_w]
                    rfl
                  refine one_ (i := 1) (N := some 75) #[true, true, false, false] rfl rfl (by kernel_rfl) (by decide) (fun K hK => ?_)
                  refine goes_ Try.func69 (by kernel_rfl) rfl #[.int .i64 256] (by rfl) rfl rfl (by (try simp only [List.map_toArray, List.map_cons, List.map_nil]); first | done | rfl | (simp only [List.length_drop, List.length_take]; rfl)) ?_
                  with_reducible refine (scalar_Int.calls k2 256 t1376 _ A44.out).mono ?_
                  rintro e w47 ⟨rfl, hb⟩
                  refine ⟨_, rfl, ?_⟩
                  have n0_ := Aside0.mk (blk_below (g := gb1363) (o := .cells #[.int .i64 a2_0, .int .i64 a2_1] 63 (0, 0)) (by (with_reducible repeat (first | refine blk_drewN ?_ _ | refine blk_drew ?_ | refine blk_alloc ?_ _)); exact BK1363.out) hb)
                  have n1_ := Aside0.mk (blk_below (g := gb1367) (o := .cells (sv t1365) 73 (0, 0)) (by (with_reducible repeat (first | refine blk_drewN ?_ _ | refine blk_drew ?_ | refine blk_alloc ?_ _)); exact BK1367.out) hb)
                  have n2_ := Aside0.mk (blk_below (g := gb1371) (o := .cells (sv t1369) 73 (0, 0)) (by (with_reducible repeat (first | refine blk_drewN ?_ _ | refine blk_drew ?_ | refine blk_alloc ?_ _)); exact BK1371.out) hb)
                  have n3_ := Aside0.mk (blk_below (g := gb1375) (o := .cells (sv x1376000_2) 73 (0, 0)) (by (with_reducible repeat (first | refine blk_drewN ?_ _ | refine blk_drew ?_ | refine blk_alloc ?_ _)); exact BK1375.out) hb)
                  have n4_ := Aside0.mk (below_step (by repeat (first | (with_reducible first | exact HB.out | apply below_alloc | apply pw_below_drewN | apply below_drew1 | refine below_set ?_ GE1363.out | refine below_set ?_ GE1367.out | refine below_set ?_ GE1371.out | refine below_set ?_ GE1375.out) | exact HB.out)) hb)
                  clear BK1363
                  clear BK1367
                  clear BK1371
                  clear BK1375
                  clear HB
                  have BK1363 := n0_
                  have BK1367 := n1_
                  have BK1371 := n2_
                  have BK1375 := n3_
                  have HB := n4_
                  clear n0_ n1_ n2_ n3_ n4_
                  (try clear hb)
                  (try clear hb2)
                  (try clear hk)
                  (try clear hi)
                  refine hK.out _ _ (c7_of BK1375.out rfl) (fun hHeld => ?_)
                  clear hK K
                  refine norm_ (a' := ?_) ?_ ?_
                  rotate_left
                  · show Act.put _ (some 75) _ = _
                    simp only [Act.put, List.setIfInBounds_toArray, List.set_cons_zero, List.set_cons_succ, i64_w, i32_w]
                    rfl
                  refine one_ (i := 2) (N := some 76) #[true, true, true, false] rfl rfl (by kernel_rfl) (by decide) (fun K hK => ?_)
                  refine goes_ Try.func72 (by kernel_rfl) rfl #[.agg (sv x1376000_2), .agg (sv t1376)] (by rfl) rfl rfl (by (try simp only [List.map_toArray, List.map_cons, List.map_nil]); first | done | rfl | (simp only [List.length_drop, List.length_take]; rfl)) ?_
                  with_reducible refine (scalar_Mul.calls k2 x1376000_2 t1376 t1377 _ A45.out).mono ?_
                  rintro e w48 ⟨rfl, hb⟩
                  refine ⟨_, rfl, ?_⟩
                  have n0_ := Aside0.mk (blk_below (g := gb1363) (o := .cells #[.int .i64 a2_0, .int .i64 a2_1] 63 (0, 0)) (by (with_reducible repeat (first | refine blk_drewN ?_ _ | refine blk_drew ?_ | refine blk_alloc ?_ _)); exact BK1363.out) hb)
                  have n1_ := Aside0.mk (blk_below (g := gb1367) (o := .cells (sv t1365) 73 (0, 0)) (by (with_reducible repeat (first | refine blk_drewN ?_ _ | refine blk_drew ?_ | refine blk_alloc ?_ _)); exact BK1367.out) hb)
                  have n2_ := Aside0.mk (blk_below (g := gb1371) (o := .cells (sv t1369) 73 (0, 0)) (by (with_reducible repeat (first | refine blk_drewN ?_ _ | refine blk_drew ?_ | refine blk_alloc ?_ _)); exact BK1371.out) hb)
                  have n3_ := Aside0.mk (blk_below (g := gb1375) (o := .cells (sv x1376000_2) 73 (0, 0)) (by (with_reducible repeat (first | refine blk_drewN ?_ _ | refine blk_drew ?_ | refine blk_alloc ?_ _)); exact BK1375.out) hb)
                  have n4_ := Aside0.mk (below_step (by repeat (first | (with_reducible first | exact HB.out | apply below_alloc | apply pw_below_drewN | apply below_drew1 | refine below_set ?_ GE1363.out | refine below_set ?_ GE1367.out | refine below_set ?_ GE1371.out | refine below_set ?_ GE1375.out) | exact HB.out)) hb)
                  clear BK1363
                  clear BK1367
                  clear BK1371
                  clear BK1375
                  clear HB
                  have BK1363 := n0_
                  have BK1367 := n1_
                  have BK1371 := n2_
                  have BK1375 := n3_
                  have HB := n4_
                  clear n0_ n1_ n2_ n3_ n4_
                  (try clear hb)
                  (try clear hb2)
                  (try clear hk)
                  (try clear hi)
                  refine hK.out _ _ (c7_of BK1375.out rfl) (fun hHeld => ?_)
                  clear hK K
                  refine norm_ (a' := ?_) ?_ ?_
                  rotate_left
                  · show Act.put _ (some 76) _ = _
                    simp only [Act.put, List.setIfInBounds_toArray, List.set_cons_zero, List.set_cons_succ, i64_w, i32_w]
                    rfl
                  refine last_ (i := 3) (N := none) #[true, true, true, true] rfl rfl (by kernel_rfl) (by decide) (fun K hK => ?_)
                  obtain ⟨hs49, hs49_c1, hs49_c2, hs49_c3, hs49_c4, hs49_c5, hs49_c6⟩ := c7_of (a := x1376000_2) BK1375.out rfl
                  obtain ⟨hfs49, hfs49_c1, hfs49_c2, hfs49_c3, hfs49_c4, hfs49_c5, hfs49_c6⟩ := fz7 BK1375.out
                  have hns49_0 := NB1363_1375.out
                  have hns49_1 := NB1367_1375.out
                  have hns49_2 := NB1371_1375.out
                  have hms49_0 := NB1375_1363.out
                  have hms49_1 := NB1375_1367.out
                  have hms49_2 := NB1375_1371.out
                  refine skip_ (w1 := ?_) (by rfl) rfl ?_ ?_
                  rotate_left
                  · go_simp
                    rfl
                  refine hK.out _ _ ?_
                  clear hK K
                  refine done_ (by kernel_rfl) ?_
                  try go_wp2
                  go_roundg k2
                  case measure => have := HJ3.out; have := HK2.out; omega
                  case rel => exact ⟨(wrap64 (x13_2 + 1)), (t1377), (by first | rfl | (simp; done) | (simp [*]; done)), H', ⟨by have := HJ3.out; have := HK2.out; omega⟩, ⟨by (with_reducible repeat (first | refine blk_drewN ?_ _ | refine blk_drew ?_ | refine blk_alloc ?_ _)); refine blk_far7 ?_ NB1363_1375.out; (with_reducible repeat (first | refine blk_drewN ?_ _ | refine blk_drew ?_ | refine blk_alloc ?_ _)); exact BK1363.out⟩, ⟨by (with_reducible repeat (first | refine blk_drewN ?_ _ | refine blk_drew ?_ | refine blk_alloc ?_ _)); refine blk_far7 ?_ NB1367_1375.out; (with_reducible repeat (first | refine blk_drewN ?_ _ | refine blk_drew ?_ | refine blk_alloc ?_ _)); exact BK1367.out⟩, ⟨by (with_reducible repeat (first | refine blk_drewN ?_ _ | refine blk_drew ?_ | refine blk_alloc ?_ _)); refine blk_far7 ?_ NB1371_1375.out; (with_reducible repeat (first | refine blk_drewN ?_ _ | refine blk_drew ?_ | refine blk_alloc ?_ _)); exact BK1371.out⟩, ⟨by (with_reducible repeat (first | refine blk_drewN ?_ _ | refine blk_drew ?_ | refine blk_alloc ?_ _)); refine blk_put7s (a := x1376000_2) ?_; (with_reducible repeat (first | refine blk_drewN ?_ _ | refine blk_drew ?_ | refine blk_alloc ?_ _)); exact BK1375.out⟩, ⟨by repeat (first | (with_reducible first | exact HB.out | apply below_alloc | apply pw_below_drewN | apply below_drew1 | refine below_set ?_ GE1363.out | refine below_set ?_ GE1367.out | refine below_set ?_ GE1371.out | refine below_set ?_ GE1375.out) | exact HB.out)⟩⟩
                · rw [if_neg c43] at H
                  have c43b0 : decide (x13_2 < a1) = false := decide_eq_false c43
                  clear c43
                  replace H := Option.bind_eq_some_iff.mp H
                  obtain ⟨t1378, A500, H⟩ := H
                  replace H : ((scalar_Int.f k2 a2_1).bind fun t1380 => ((scalar_Add.f k2 t1378 t1380).bind fun t1382 => ((scalar_Int.f k2 (wrap64 (a2_0 + a2_1))).bind fun t1383 => ((scalar_Equal.f k2 t1382 t1383).bind fun t1384 => (if t1384 = true then ((scalar_Mul.f k2 t1378 t1380).bind fun t1385 => ((scalar_Int.f k2 (wrap64 (a2_0 * a2_1))).bind fun t1386 => ((scalar_Equal.f k2 t1385 t1386).bind fun t1387 => (if t1387 = true then ((scalar_Equal.f k2 t1378 t1380).bind fun t1388 => (chicorylaw06_ScalarLong.j2 k2 t1366 t1370 t1374 (t1388 != (a2_0 == a2_1)) t1365 t1369 x1376000_2)) else (chicorylaw06_ScalarLong.j2 k2 t1366 t1370 t1374 true t1365 t1369 x1376000_2))))) else (chicorylaw06_ScalarLong.j2 k2 t1366 t1370 t1374 true t1365 t1369 x1376000_2)))))) = some true := H
                  have A50 := Aside0.mk A500
                  clear A500
                  replace H := Option.bind_eq_some_iff.mp H
                  obtain ⟨t1380, A510, H⟩ := H
                  replace H : ((scalar_Add.f k2 t1378 t1380).bind fun t1382 => ((scalar_Int.f k2 (wrap64 (a2_0 + a2_1))).bind fun t1383 => ((scalar_Equal.f k2 t1382 t1383).bind fun t1384 => (if t1384 = true then ((scalar_Mul.f k2 t1378 t1380).bind fun t1385 => ((scalar_Int.f k2 (wrap64 (a2_0 * a2_1))).bind fun t1386 => ((scalar_Equal.f k2 t1385 t1386).bind fun t1387 => (if t1387 = true then ((scalar_Equal.f k2 t1378 t1380).bind fun t1388 => (chicorylaw06_ScalarLong.j2 k2 t1366 t1370 t1374 (t1388 != (a2_0 == a2_1)) t1365 t1369 x1376000_2)) else (chicorylaw06_ScalarLong.j2 k2 t1366 t1370 t1374 true t1365 t1369 x1376000_2))))) else (chicorylaw06_ScalarLong.j2 k2 t1366 t1370 t1374 true t1365 t1369 x1376000_2))))) = some true := H
                  have A51 := Aside0.mk A510
                  clear A510
                  have HC52 := Aside0.mk H
                  clear H
                  have hnb53 := NB1363_1367.out
                  have hnc53 := NB1367_1363.out
                  have hnb54 := NB1363_1371.out
                  have hnc54 := NB1371_1363.out
                  have hnb55 := NB1363_1375.out
                  have hnc55 := NB1375_1363.out
                  have hcz56_0 : wr.cell? ⟨gb1363, 0, none⟩ = some (.int .i64 a2_0) := (blk_cell BK1363.out 0).trans rfl
                  have hcz56_1 : wr.cell? ⟨gb1363, 1, none⟩ = some (.int .i64 a2_1) := (blk_cell BK1363.out 1).trans rfl
                  have hfz56_0 := blk_frozen BK1363.out 0
                  have hfz56_1 := blk_frozen BK1363.out 1
                  go_upto_region 12 with (first | ((with_reducible refine gate_callee (f := 69) rfl ?_); refine goesL_ (some 79) rfl rfl Try.func69 (by kernel_rfl) rfl #[.int .i64 a2_0] rfl (by (try simp only [List.map_toArray, List.map_cons, List.map_nil]); first | done | rfl | (simp only [List.length_drop, List.length_take]; rfl)) ?_; (with_reducible refine (scalar_Int.calls k2 a2_0 t1378 _ A50.out).mono ?_); rintro e w57 ⟨rfl, hb⟩; refine ⟨_, rfl, ?_⟩; have n0_ := Aside0.mk (blk_below (g := gb1363) (o := .cells #[.int .i64 a2_0, .int .i64 a2_1] 63 (0, 0)) (by (with_reducible repeat (first | refine blk_drewN ?_ _ | refine blk_drew ?_ | refine blk_alloc ?_ _)); exact BK1363.out) hb); have n1_ := Aside0.mk (blk_below (g := gb1367) (o := .cells (sv t1365) 73 (0, 0)) (by (with_reducible repeat (first | refine blk_drewN ?_ _ | refine blk_drew ?_ | refine blk_alloc ?_ _)); exact BK1367.out) hb); have n2_ := Aside0.mk (blk_below (g := gb1371) (o := .cells (sv t1369) 73 (0, 0)) (by (with_reducible repeat (first | refine blk_drewN ?_ _ | refine blk_drew ?_ | refine blk_alloc ?_ _)); exact BK1371.out) hb); have n3_ := Aside0.mk (blk_below (g := gb1375) (o := .cells (sv x1376000_2) 73 (0, 0)) (by (with_reducible repeat (first | refine blk_drewN ?_ _ | refine blk_drew ?_ | refine blk_alloc ?_ _)); exact BK1375.out) hb); have n4_ := Aside0.mk (below_step (by repeat (first | (with_reducible first | exact HB.out | apply below_alloc | apply pw_below_drewN | apply below_drew1 | refine below_set ?_ GE1363.out | refine below_set ?_ GE1367.out | refine below_set ?_ GE1371.out | refine below_set ?_ GE1375.out) | exact HB.out)) hb); clear BK1363; clear BK1367; clear BK1371; clear BK1375; clear HB; have BK1363 := n0_; have BK1367 := n1_; have BK1371 := n2_; have BK1375 := n3_; have HB := n4_; clear n0_ n1_ n2_ n3_ n4_; (try clear hb); (try clear hb2); (try clear hk); (try clear hi)) | ((with_reducible refine gate_dst (N := 14) rfl ?_); (try (refine gate_guard (by rfl) ?_; dsimp only)); refine box_event ?hg (N := 14) ?hd (cs := zv) (t := 73) ?hr ?_; (case hd => rfl); (case hg => rfl); (case hr => first | (go_simp; done) | (go_simp; rfl)); intro gb1379 hg w58 hbox hb; have n0_ := Aside0.mk (blk_below (g := gb1363) (o := .cells #[.int .i64 a2_0, .int .i64 a2_1] 63 (0, 0)) (by (with_reducible repeat (first | refine blk_drewN ?_ _ | refine blk_drew ?_ | refine blk_alloc ?_ _)); exact BK1363.out) hb); have n1_ := Aside0.mk (blk_below (g := gb1367) (o := .cells (sv t1365) 73 (0, 0)) (by (with_reducible repeat (first | refine blk_drewN ?_ _ | refine blk_drew ?_ | refine blk_alloc ?_ _)); exact BK1367.out) hb); have n2_ := Aside0.mk (blk_below (g := gb1371) (o := .cells (sv t1369) 73 (0, 0)) (by (with_reducible repeat (first | refine blk_drewN ?_ _ | refine blk_drew ?_ | refine blk_alloc ?_ _)); exact BK1371.out) hb); have n3_ := Aside0.mk (blk_below (g := gb1375) (o := .cells (sv x1376000_2) 73 (0, 0)) (by (with_reducible repeat (first | refine blk_drewN ?_ _ | refine blk_drew ?_ | refine blk_alloc ?_ _)); exact BK1375.out) hb); have n4_ := Aside0.mk (below_step (by repeat (first | (with_reducible first | exact HB.out | apply below_alloc | apply pw_below_drewN | apply below_drew1 | refine below_set ?_ GE1363.out | refine below_set ?_ GE1367.out | refine below_set ?_ GE1371.out | refine below_set ?_ GE1375.out) | exact HB.out)) hb); have n5_ := Aside0.mk (hbox); have n6_ := Aside0.mk ((by rw [hg]; exact (below_size (by repeat (first | (with_reducible first | exact HB.out | apply below_alloc | apply pw_below_drewN | apply below_drew1 | refine below_set ?_ GE1363.out | refine below_set ?_ GE1367.out | refine below_set ?_ GE1371.out | refine below_set ?_ GE1375.out) | exact HB.out))) : w.heap.size ≤ gb1379)); have n7_ := Aside0.mk ((by rw [hg]; exact (below_size (by repeat (first | (with_reducible first | exact HB.out | apply below_alloc | apply pw_below_drewN | apply below_drew1 | refine below_set ?_ GE1363.out | refine below_set ?_ GE1367.out | refine below_set ?_ GE1371.out | refine below_set ?_ GE1375.out) | exact HB.out))) : w.heap.size ≤ gb1379)); have n8_ := Aside0.mk ((by rw [hg]; exact Nat.ne_of_lt (blk_lt (g := gb1363) (o := .cells #[.int .i64 a2_0, .int .i64 a2_1] 63 (0, 0)) (by (with_reducible repeat (first | refine blk_drewN ?_ _ | refine blk_drew ?_ | refine blk_alloc ?_ _)); exact BK1363.out)) : gb1363 ≠ gb1379)); have n9_ := Aside0.mk ((by rw [hg]; exact Nat.ne_of_gt (blk_lt (g := gb1363) (o := .cells #[.int .i64 a2_0, .int .i64 a2_1] 63 (0, 0)) (by (with_reducible repeat (first | refine blk_drewN ?_ _ | refine blk_drew ?_ | refine blk_alloc ?_ _)); exact BK1363.out)) : gb1379 ≠ gb1363)); have n10_ := Aside0.mk ((by rw [hg]; exact Nat.ne_of_lt (blk_lt (g := gb1367) (o := .cells (sv t1365) 73 (0, 0)) (by (with_reducible repeat (first | refine blk_drewN ?_ _ | refine blk_drew ?_ | refine blk_alloc ?_ _)); exact BK1367.out)) : gb1367 ≠ gb1379)); have n11_ := Aside0.mk ((by rw [hg]; exact Nat.ne_of_gt (blk_lt (g := gb1367) (o := .cells (sv t1365) 73 (0, 0)) (by (with_reducible repeat (first | refine blk_drewN ?_ _ | refine blk_drew ?_ | refine blk_alloc ?_ _)); exact BK1367.out)) : gb1379 ≠ gb1367)); have n12_ := Aside0.mk ((by rw [hg]; exact Nat.ne_of_lt (blk_lt (g := gb1371) (o := .cells (sv t1369) 73 (0, 0)) (by (with_reducible repeat (first | refine blk_drewN ?_ _ | refine blk_drew ?_ | refine blk_alloc ?_ _)); exact BK1371.out)) : gb1371 ≠ gb1379)); have n13_ := Aside0.mk ((by rw [hg]; exact Nat.ne_of_gt (blk_lt (g := gb1371) (o := .cells (sv t1369) 73 (0, 0)) (by (with_reducible repeat (first | refine blk_drewN ?_ _ | refine blk_drew ?_ | refine blk_alloc ?_ _)); exact BK1371.out)) : gb1379 ≠ gb1371)); have n14_ := Aside0.mk ((by rw [hg]; exact Nat.ne_of_lt (blk_lt (g := gb1375) (o := .cells (sv x1376000_2) 73 (0, 0)) (by (with_reducible repeat (first | refine blk_drewN ?_ _ | refine blk_drew ?_ | refine blk_alloc ?_ _)); exact BK1375.out)) : gb1375 ≠ gb1379)); have n15_ := Aside0.mk ((by rw [hg]; exact Nat.ne_of_gt (blk_lt (g := gb1375) (o := .cells (sv x1376000_2) 73 (0, 0)) (by (with_reducible repeat (first | refine blk_drewN ?_ _ | refine blk_drew ?_ | refine blk_alloc ?_ _)); exact BK1375.out)) : gb1379 ≠ gb1375)); clear BK1363; clear BK1367; clear BK1371; clear BK1375; clear HB; have BK1363 := n0_; have BK1367 := n1_; have BK1371 := n2_; have BK1375 := n3_; have HB := n4_; have BK1379 := n5_; have GW1379 := n6_; have GE1379 := n7_; have NB1363_1379 := n8_; have NB1379_1363 := n9_; have NB1367_1379 := n10_; have NB1379_1367 := n11_; have NB1371_1379 := n12_; have NB1379_1371 := n13_; have NB1375_1379 := n14_; have NB1379_1375 := n15_; clear n0_ n1_ n2_ n3_ n4_ n5_ n6_ n7_ n8_ n9_ n10_ n11_ n12_ n13_ n14_ n15_; clear hb hbox hg; have hnb59 := NB1379_1363.out; have hnc59 := NB1363_1379.out; have hnb60 := NB1379_1367.out; have hnc60 := NB1367_1379.out; have hnb61 := NB1379_1371.out; have hnc61 := NB1371_1379.out; have hnb62 := NB1379_1375.out; have hnc62 := NB1375_1379.out; obtain ⟨hcz63_0, hcz63_0_c1, hcz63_0_c2, hcz63_0_c3, hcz63_0_c4, hcz63_0_c5, hcz63_0_c6⟩ := c7_of (a := z7) BK1379.out rfl; obtain ⟨hfz63_0, hfz63_0_c1, hfz63_0_c2, hfz63_0_c3, hfz63_0_c4, hfz63_0_c5, hfz63_0_c6⟩ := fz7 BK1379.out; have hcz64_0 : w58.cell? ⟨gb1363, 0, none⟩ = some (.int .i64 a2_0) := (blk_cell BK1363.out 0).trans rfl; have hcz64_1 : w58.cell? ⟨gb1363, 1, none⟩ = some (.int .i64 a2_1) := (blk_cell BK1363.out 1).trans rfl; have hfz64_0 := blk_frozen BK1363.out 0; have hfz64_1 := blk_frozen BK1363.out 1) | ((with_reducible refine gate_callee (f := 69) rfl ?_); refine goesL_ (some 82) rfl rfl Try.func69 (by kernel_rfl) rfl #[.int .i64 a2_1] rfl (by (try simp only [List.map_toArray, List.map_cons, List.map_nil]); first | done | rfl | (simp only [List.length_drop, List.length_take]; rfl)) ?_; (with_reducible refine (scalar_Int.calls k2 a2_1 t1380 _ A51.out).mono ?_); rintro e w65 ⟨rfl, hb⟩; refine ⟨_, rfl, ?_⟩; have n0_ := Aside0.mk (blk_below (g := gb1363) (o := .cells #[.int .i64 a2_0, .int .i64 a2_1] 63 (0, 0)) (by (with_reducible repeat (first | refine blk_drewN ?_ _ | refine blk_drew ?_ | refine blk_alloc ?_ _)); refine blk_far7 ?_ NB1363_1379.out; (with_reducible repeat (first | refine blk_drewN ?_ _ | refine blk_drew ?_ | refine blk_alloc ?_ _)); exact BK1363.out) hb); have n1_ := Aside0.mk (blk_below (g := gb1367) (o := .cells (sv t1365) 73 (0, 0)) (by (with_reducible repeat (first | refine blk_drewN ?_ _ | refine blk_drew ?_ | refine blk_alloc ?_ _)); refine blk_far7 ?_ NB1367_1379.out; (with_reducible repeat (first | refine blk_drewN ?_ _ | refine blk_drew ?_ | refine blk_alloc ?_ _)); exact BK1367.out) hb); have n2_ := Aside0.mk (blk_below (g := gb1371) (o := .cells (sv t1369) 73 (0, 0)) (by (with_reducible repeat (first | refine blk_drewN ?_ _ | refine blk_drew ?_ | refine blk_alloc ?_ _)); refine blk_far7 ?_ NB1371_1379.out; (with_reducible repeat (first | refine blk_drewN ?_ _ | refine blk_drew ?_ | refine blk_alloc ?_ _)); exact BK1371.out) hb); have n3_ := Aside0.mk (blk_below (g := gb1375) (o := .cells (sv x1376000_2) 73 (0, 0)) (by (with_reducible repeat (first | refine blk_drewN ?_ _ | refine blk_drew ?_ | refine blk_alloc ?_ _)); refine blk_far7 ?_ NB1375_1379.out; (with_reducible repeat (first | refine blk_drewN ?_ _ | refine blk_drew ?_ | refine blk_alloc ?_ _)); exact BK1375.out) hb); have n4_ := Aside0.mk (blk_below (g := gb1379) (o := .cells (sv t1378) 73 (0, 0)) (by (with_reducible repeat (first | refine blk_drewN ?_ _ | refine blk_drew ?_ | refine blk_alloc ?_ _)); refine blk_put7z ?_; (with_reducible repeat (first | refine blk_drewN ?_ _ | refine blk_drew ?_ | refine blk_alloc ?_ _)); exact BK1379.out) hb); have n5_ := Aside0.mk (below_step (by repeat (first | (with_reducible first | exact HB.out | apply below_alloc | apply pw_below_drewN | apply below_drew1 | refine below_set ?_ GE1363.out | refine below_set ?_ GE1367.out | refine below_set ?_ GE1371.out | refine below_set ?_ GE1375.out | refine below_set ?_ GE1379.out) | exact HB.out)) hb); clear BK1363; clear BK1367; clear BK1371; clear BK1375; clear BK1379; clear HB; have BK1363 := n0_; have BK1367 := n1_; have BK1371 := n2_; have BK1375 := n3_; have BK1379 := n4_; have HB := n5_; clear n0_ n1_ n2_ n3_ n4_ n5_; (try clear hb); (try clear hb2); (try clear hk); (try clear hi)) | ((with_reducible refine gate_dst (N := 15) rfl ?_); (try (refine gate_guard (by rfl) ?_; dsimp only)); refine box_event ?hg (N := 15) ?hd (cs := zv) (t := 73) ?hr ?_; (case hd => rfl); (case hg => rfl); (case hr => first | (go_simp; done) | (go_simp; rfl)); intro gb1381 hg w66 hbox hb; have n0_ := Aside0.mk (blk_below (g := gb1363) (o := .cells #[.int .i64 a2_0, .int .i64 a2_1] 63 (0, 0)) (by (with_reducible repeat (first | refine blk_drewN ?_ _ | refine blk_drew ?_ | refine blk_alloc ?_ _)); exact BK1363.out) hb); have n1_ := Aside0.mk (blk_below (g := gb1367) (o := .cells (sv t1365) 73 (0, 0)) (by (with_reducible repeat (first | refine blk_drewN ?_ _ | refine blk_drew ?_ | refine blk_alloc ?_ _)); exact BK1367.out) hb); have n2_ := Aside0.mk (blk_below (g := gb1371) (o := .cells (sv t1369) 73 (0, 0)) (by (with_reducible repeat (first | refine blk_drewN ?_ _ | refine blk_drew ?_ | refine blk_alloc ?_ _)); exact BK1371.out) hb); have n3_ := Aside0.mk (blk_below (g := gb1375) (o := .cells (sv x1376000_2) 73 (0, 0)) (by (with_reducible repeat (first | refine blk_drewN ?_ _ | refine blk_drew ?_ | refine blk_alloc ?_ _)); exact BK1375.out) hb); have n4_ := Aside0.mk (blk_below (g := gb1379) (o := .cells (sv t1378) 73 (0, 0)) (by (with_reducible repeat (first | refine blk_drewN ?_ _ | refine blk_drew ?_ | refine blk_alloc ?_ _)); exact BK1379.out) hb); have n5_ := Aside0.mk (below_step (by repeat (first | (with_reducible first | exact HB.out | apply below_alloc | apply pw_below_drewN | apply below_drew1 | refine below_set ?_ GE1363.out | refine below_set ?_ GE1367.out | refine below_set ?_ GE1371.out | refine below_set ?_ GE1375.out | refine below_set ?_ GE1379.out) | exact HB.out)) hb); have n6_ := Aside0.mk (hbox); have n7_ := Aside0.mk ((by rw [hg]; exact (below_size (by repeat (first | (with_reducible first | exact HB.out | apply below_alloc | apply pw_below_drewN | apply below_drew1 | refine below_set ?_ GE1363.out | refine below_set ?_ GE1367.out | refine below_set ?_ GE1371.out | refine below_set ?_ GE1375.out | refine below_set ?_ GE1379.out) | exact HB.out))) : w.heap.size ≤ gb1381)); have n8_ := Aside0.mk ((by rw [hg]; exact (below_size (by repeat (first | (with_reducible first | exact HB.out | apply below_alloc | apply pw_below_drewN | apply below_drew1 | refine below_set ?_ GE1363.out | refine below_set ?_ GE1367.out | refine below_set ?_ GE1371.out | refine below_set ?_ GE1375.out | refine below_set ?_ GE1379.out) | exact HB.out))) : w.heap.size ≤ gb1381)); have n9_ := Aside0.mk ((by rw [hg]; exact Nat.ne_of_lt (blk_lt (g := gb1363) (o := .cells #[.int .i64 a2_0, .int .i64 a2_1] 63 (0, 0)) (by (with_reducible repeat (first | refine blk_drewN ?_ _ | refine blk_drew ?_ | refine blk_alloc ?_ _)); exact BK1363.out)) : gb1363 ≠ gb1381)); have n10_ := Aside0.mk ((by rw [hg]; exact Nat.ne_of_gt (blk_lt (g := gb1363) (o := .cells #[.int .i64 a2_0, .int .i64 a2_1] 63 (0, 0)) (by (with_reducible repeat (first | refine blk_drewN ?_ _ | refine blk_drew ?_ | refine blk_alloc ?_ _)); exact BK1363.out)) : gb1381 ≠ gb1363)); have n11_ := Aside0.mk ((by rw [hg]; exact Nat.ne_of_lt (blk_lt (g := gb1367) (o := .cells (sv t1365) 73 (0, 0)) (by (with_reducible repeat (first | refine blk_drewN ?_ _ | refine blk_drew ?_ | refine blk_alloc ?_ _)); exact BK1367.out)) : gb1367 ≠ gb1381)); have n12_ := Aside0.mk ((by rw [hg]; exact Nat.ne_of_gt (blk_lt (g := gb1367) (o := .cells (sv t1365) 73 (0, 0)) (by (with_reducible repeat (first | refine blk_drewN ?_ _ | refine blk_drew ?_ | refine blk_alloc ?_ _)); exact BK1367.out)) : gb1381 ≠ gb1367)); have n13_ := Aside0.mk ((by rw [hg]; exact Nat.ne_of_lt (blk_lt (g := gb1371) (o := .cells (sv t1369) 73 (0, 0)) (by (with_reducible repeat (first | refine blk_drewN ?_ _ | refine blk_drew ?_ | refine blk_alloc ?_ _)); exact BK1371.out)) : gb1371 ≠ gb1381)); have n14_ := Aside0.mk ((by rw [hg]; exact Nat.ne_of_gt (blk_lt (g := gb1371) (o := .cells (sv t1369) 73 (0, 0)) (by (with_reducible repeat (first | refine blk_drewN ?_ _ | refine blk_drew ?_ | refine blk_alloc ?_ _)); exact BK1371.out)) : gb1381 ≠ gb1371)); have n15_ := Aside0.mk ((by rw [hg]; exact Nat.ne_of_lt (blk_lt (g := gb1375) (o := .cells (sv x1376000_2) 73 (0, 0)) (by (with_reducible repeat (first | refine blk_drewN ?_ _ | refine blk_drew ?_ | refine blk_alloc ?_ _)); exact BK1375.out)) : gb1375 ≠ gb1381)); have n16_ := Aside0.mk ((by rw [hg]; exact Nat.ne_of_gt (blk_lt (g := gb1375) (o := .cells (sv x1376000_2) 73 (0, 0)) (by (with_reducible repeat (first | refine blk_drewN ?_ _ | refine blk_drew ?_ | refine blk_alloc ?_ _)); exact BK1375.out)) : gb1381 ≠ gb1375)); have n17_ := Aside0.mk ((by rw [hg]; exact Nat.ne_of_lt (blk_lt (g := gb1379) (o := .cells (sv t1378) 73 (0, 0)) (by (with_reducible repeat (first | refine blk_drewN ?_ _ | refine blk_drew ?_ | refine blk_alloc ?_ _)); exact BK1379.out)) : gb1379 ≠ gb1381)); have n18_ := Aside0.mk ((by rw [hg]; exact Nat.ne_of_gt (blk_lt (g := gb1379) (o := .cells (sv t1378) 73 (0, 0)) (by (with_reducible repeat (first | refine blk_drewN ?_ _ | refine blk_drew ?_ | refine blk_alloc ?_ _)); exact BK1379.out)) : gb1381 ≠ gb1379)); clear BK1363; clear BK1367; clear BK1371; clear BK1375; clear BK1379; clear HB; have BK1363 := n0_; have BK1367 := n1_; have BK1371 := n2_; have BK1375 := n3_; have BK1379 := n4_; have HB := n5_; have BK1381 := n6_; have GW1381 := n7_; have GE1381 := n8_; have NB1363_1381 := n9_; have NB1381_1363 := n10_; have NB1367_1381 := n11_; have NB1381_1367 := n12_; have NB1371_1381 := n13_; have NB1381_1371 := n14_; have NB1375_1381 := n15_; have NB1381_1375 := n16_; have NB1379_1381 := n17_; have NB1381_1379 := n18_; clear n0_ n1_ n2_ n3_ n4_ n5_ n6_ n7_ n8_ n9_ n10_ n11_ n12_ n13_ n14_ n15_ n16_ n17_ n18_; clear hb hbox hg; have hnb67 := NB1381_1363.out; have hnc67 := NB1363_1381.out; have hnb68 := NB1381_1367.out; have hnc68 := NB1367_1381.out; have hnb69 := NB1381_1371.out; have hnc69 := NB1371_1381.out; have hnb70 := NB1381_1375.out; have hnc70 := NB1375_1381.out; have hnb71 := NB1381_1379.out; have hnc71 := NB1379_1381.out; obtain ⟨hcz72_0, hcz72_0_c1, hcz72_0_c2, hcz72_0_c3, hcz72_0_c4, hcz72_0_c5, hcz72_0_c6⟩ := c7_of (a := z7) BK1381.out rfl; obtain ⟨hfz72_0, hfz72_0_c1, hfz72_0_c2, hfz72_0_c3, hfz72_0_c4, hfz72_0_c5, hfz72_0_c6⟩ := fz7 BK1381.out))
                  (try simp only [Act.put, List.setIfInBounds_toArray, List.set_cons_zero, List.set_cons_succ])
                  go_cut [117] (fun v117 wc => ∃ (kq : Nat) (x117_51 : Bool), v117 = .bool x117_51 ∧ Aside0 (chicorylaw06_ScalarLong.j2 kq t1366 t1370 t1374 x117_51 t1365 t1369 x1376000_2 = some true) ∧ Aside0 (kq ≤ k2) ∧ Aside0 (wc.heap[gb1363]? = some (.cells #[.int .i64 a2_0, .int .i64 a2_1] 63 (0, 0))) ∧ Aside0 (wc.heap[gb1367]? = some (.cells (sv t1365) 73 (0, 0))) ∧ Aside0 (wc.heap[gb1371]? = some (.cells (sv t1369) 73 (0, 0))) ∧ Aside0 (wc.heap[gb1375]? = some (.cells (sv x1376000_2) 73 (0, 0))) ∧ Aside0 (wc.heap[gb1379]? = some (.cells (sv t1378) 73 (0, 0))) ∧ Aside0 (wc.heap[gb1381]? = some (.cells (sv t1380) 73 (0, 0))) ∧ Aside0 (Below w.heap.size w wc))
                  case first =>
                    have H := HC52.out
                    clear HC52
                    replace H := Option.bind_eq_some_iff.mp H
                    obtain ⟨t1382, A730, H⟩ := H
                    replace H : ((scalar_Int.f k2 (wrap64 (a2_0 + a2_1))).bind fun t1383 => ((scalar_Equal.f k2 t1382 t1383).bind fun t1384 => (if t1384 = true then ((scalar_Mul.f k2 t1378 t1380).bind fun t1385 => ((scalar_Int.f k2 (wrap64 (a2_0 * a2_1))).bind fun t1386 => ((scalar_Equal.f k2 t1385 t1386).bind fun t1387 => (if t1387 = true then ((scalar_Equal.f k2 t1378 t1380).bind fun t1388 => (chicorylaw06_ScalarLong.j2 k2 t1366 t1370 t1374 (t1388 != (a2_0 == a2_1)) t1365 t1369 x1376000_2)) else (chicorylaw06_ScalarLong.j2 k2 t1366 t1370 t1374 true t1365 t1369 x1376000_2))))) else (chicorylaw06_ScalarLong.j2 k2 t1366 t1370 t1374 true t1365 t1369 x1376000_2)))) = some true := H
                    have A73 := Aside0.mk A730
                    clear A730
                    replace H := Option.bind_eq_some_iff.mp H
                    obtain ⟨t1383, A740, H⟩ := H
                    replace H : ((scalar_Equal.f k2 t1382 t1383).bind fun t1384 => (if t1384 = true then ((scalar_Mul.f k2 t1378 t1380).bind fun t1385 => ((scalar_Int.f k2 (wrap64 (a2_0 * a2_1))).bind fun t1386 => ((scalar_Equal.f k2 t1385 t1386).bind fun t1387 => (if t1387 = true then ((scalar_Equal.f k2 t1378 t1380).bind fun t1388 => (chicorylaw06_ScalarLong.j2 k2 t1366 t1370 t1374 (t1388 != (a2_0 == a2_1)) t1365 t1369 x1376000_2)) else (chicorylaw06_ScalarLong.j2 k2 t1366 t1370 t1374 true t1365 t1369 x1376000_2))))) else (chicorylaw06_ScalarLong.j2 k2 t1366 t1370 t1374 true t1365 t1369 x1376000_2))) = some true := H
                    have A74 := Aside0.mk A740
                    clear A740
                    replace H := Option.bind_eq_some_iff.mp H
                    obtain ⟨t1384, A750, H⟩ := H
                    replace H : (if t1384 = true then ((scalar_Mul.f k2 t1378 t1380).bind fun t1385 => ((scalar_Int.f k2 (wrap64 (a2_0 * a2_1))).bind fun t1386 => ((scalar_Equal.f k2 t1385 t1386).bind fun t1387 => (if t1387 = true then ((scalar_Equal.f k2 t1378 t1380).bind fun t1388 => (chicorylaw06_ScalarLong.j2 k2 t1366 t1370 t1374 (t1388 != (a2_0 == a2_1)) t1365 t1369 x1376000_2)) else (chicorylaw06_ScalarLong.j2 k2 t1366 t1370 t1374 true t1365 t1369 x1376000_2))))) else (chicorylaw06_ScalarLong.j2 k2 t1366 t1370 t1374 true t1365 t1369 x1376000_2)) = some true := H
                    have A75 := Aside0.mk A750
                    clear A750
                    by_cases c76 : t1384 = true
                    · subst c76
                      have H1 : ((scalar_Mul.f k2 t1378 t1380).bind fun t1385 => ((scalar_Int.f k2 (wrap64 (a2_0 * a2_1))).bind fun t1386 => ((scalar_Equal.f k2 t1385 t1386).bind fun t1387 => (if t1387 = true then ((scalar_Equal.f k2 t1378 t1380).bind fun t1388 => (chicorylaw06_ScalarLong.j2 k2 t1366 t1370 t1374 (t1388 != (a2_0 == a2_1)) t1365 t1369 x1376000_2)) else (chicorylaw06_ScalarLong.j2 k2 t1366 t1370 t1374 true t1365 t1369 x1376000_2))))) = some true := by rw [if_pos rfl] at H; exact H
                      clear H
                      have H := H1
                      clear H1
                      replace H := Option.bind_eq_some_iff.mp H
                      obtain ⟨t1385, A770, H⟩ := H
                      replace H : ((scalar_Int.f k2 (wrap64 (a2_0 * a2_1))).bind fun t1386 => ((scalar_Equal.f k2 t1385 t1386).bind fun t1387 => (if t1387 = true then ((scalar_Equal.f k2 t1378 t1380).bind fun t1388 => (chicorylaw06_ScalarLong.j2 k2 t1366 t1370 t1374 (t1388 != (a2_0 == a2_1)) t1365 t1369 x1376000_2)) else (chicorylaw06_ScalarLong.j2 k2 t1366 t1370 t1374 true t1365 t1369 x1376000_2)))) = some true := H
                      have A77 := Aside0.mk A770
                      clear A770
                      replace H := Option.bind_eq_some_iff.mp H
                      obtain ⟨t1386, A780, H⟩ := H
                      replace H : ((scalar_Equal.f k2 t1385 t1386).bind fun t1387 => (if t1387 = true then ((scalar_Equal.f k2 t1378 t1380).bind fun t1388 => (chicorylaw06_ScalarLong.j2 k2 t1366 t1370 t1374 (t1388 != (a2_0 == a2_1)) t1365 t1369 x1376000_2)) else (chicorylaw06_ScalarLong.j2 k2 t1366 t1370 t1374 true t1365 t1369 x1376000_2))) = some true := H
                      have A78 := Aside0.mk A780
                      clear A780
                      replace H := Option.bind_eq_some_iff.mp H
                      obtain ⟨t1387, A790, H⟩ := H
                      replace H : (if t1387 = true then ((scalar_Equal.f k2 t1378 t1380).bind fun t1388 => (chicorylaw06_ScalarLong.j2 k2 t1366 t1370 t1374 (t1388 != (a2_0 == a2_1)) t1365 t1369 x1376000_2)) else (chicorylaw06_ScalarLong.j2 k2 t1366 t1370 t1374 true t1365 t1369 x1376000_2)) = some true := H
                      have A79 := Aside0.mk A790
                      clear A790
                      by_cases c80 : t1387 = true
                      · subst c80
                        have H1 : ((scalar_Equal.f k2 t1378 t1380).bind fun t1388 => (chicorylaw06_ScalarLong.j2 k2 t1366 t1370 t1374 (t1388 != (a2_0 == a2_1)) t1365 t1369 x1376000_2)) = some true := by rw [if_pos rfl] at H; exact H
                        clear H
                        have H := H1
                        clear H1
                        replace H := Option.bind_eq_some_iff.mp H
                        obtain ⟨t1388, A810, H⟩ := H
                        replace H : (chicorylaw06_ScalarLong.j2 k2 t1366 t1370 t1374 (t1388 != (a2_0 == a2_1)) t1365 t1369 x1376000_2) = some true := H
                        have A81 := Aside0.mk A810
                        clear A810
                        have H' := Aside0.mk H
                        clear H
                        try go_wp2
                        have n0_ : Aside0 ((World.setCell (World.setCell (World.setCell (World.setCell (World.setCell (World.setCell (World.setCell w66 ⟨gb1381, 0, none⟩ (.int .u64 (g7 t1380 0))) ⟨gb1381, 1, none⟩ (.int .u64 (g7 t1380 1))) ⟨gb1381, 2, none⟩ (.int .u64 (g7 t1380 2))) ⟨gb1381, 3, none⟩ (.int .u64 (g7 t1380 3))) ⟨gb1381, 4, none⟩ (.int .u64 (g7 t1380 4))) ⟨gb1381, 5, none⟩ (.int .u64 (g7 t1380 5))) ⟨gb1381, 6, none⟩ (.int .u64 (g7 t1380 6))).heap[gb1363]? = some (.cells #[.int .i64 a2_0, .int .i64 a2_1] 63 (0, 0))) := ⟨by (with_reducible repeat (first | refine blk_drewN ?_ _ | refine blk_drew ?_ | refine blk_alloc ?_ _)); refine blk_far7 ?_ NB1363_1381.out; (with_reducible repeat (first | refine blk_drewN ?_ _ | refine blk_drew ?_ | refine blk_alloc ?_ _)); exact BK1363.out⟩
                        have n1_ : Aside0 ((World.setCell (World.setCell (World.setCell (World.setCell (World.setCell (World.setCell (World.setCell w66 ⟨gb1381, 0, none⟩ (.int .u64 (g7 t1380 0))) ⟨gb1381, 1, none⟩ (.int .u64 (g7 t1380 1))) ⟨gb1381, 2, none⟩ (.int .u64 (g7 t1380 2))) ⟨gb1381, 3, none⟩ (.int .u64 (g7 t1380 3))) ⟨gb1381, 4, none⟩ (.int .u64 (g7 t1380 4))) ⟨gb1381, 5, none⟩ (.int .u64 (g7 t1380 5))) ⟨gb1381, 6, none⟩ (.int .u64 (g7 t1380 6))).heap[gb1367]? = some (.cells (sv t1365) 73 (0, 0))) := ⟨by (with_reducible repeat (first | refine blk_drewN ?_ _ | refine blk_drew ?_ | refine blk_alloc ?_ _)); refine blk_far7 ?_ NB1367_1381.out; (with_reducible repeat (first | refine blk_drewN ?_ _ | refine blk_drew ?_ | refine blk_alloc ?_ _)); exact BK1367.out⟩
                        have n2_ : Aside0 ((World.setCell (World.setCell (World.setCell (World.setCell (World.setCell (World.setCell (World.setCell w66 ⟨gb1381, 0, none⟩ (.int .u64 (g7 t1380 0))) ⟨gb1381, 1, none⟩ (.int .u64 (g7 t1380 1))) ⟨gb1381, 2, none⟩ (.int .u64 (g7 t1380 2))) ⟨gb1381, 3, none⟩ (.int .u64 (g7 t1380 3))) ⟨gb1381, 4, none⟩ (.int .u64 (g7 t1380 4))) ⟨gb1381, 5, none⟩ (.int .u64 (g7 t1380 5))) ⟨gb1381, 6, none⟩ (.int .u64 (g7 t1380 6))).heap[gb1371]? = some (.cells (sv t1369) 73 (0, 0))) := ⟨by (with_reducible repeat (first | refine blk_drewN ?_ _ | refine blk_drew ?_ | refine blk_alloc ?_ _)); refine blk_far7 ?_ NB1371_1381.out; (with_reducible repeat (first | refine blk_drewN ?_ _ | refine blk_drew ?_ | refine blk_alloc ?_ _)); exact BK1371.out⟩
                        have n3_ : Aside0 ((World.setCell (World.setCell (World.setCell (World.setCell (World.setCell (World.setCell (World.setCell w66 ⟨gb1381, 0, none⟩ (.int .u64 (g7 t1380 0))) ⟨gb1381, 1, none⟩ (.int .u64 (g7 t1380 1))) ⟨gb1381, 2, none⟩ (.int .u64 (g7 t1380 2))) ⟨gb1381, 3, none⟩ (.int .u64 (g7 t1380 3))) ⟨gb1381, 4, none⟩ (.int .u64 (g7 t1380 4))) ⟨gb1381, 5, none⟩ (.int .u64 (g7 t1380 5))) ⟨gb1381, 6, none⟩ (.int .u64 (g7 t1380 6))).heap[gb1375]? = some (.cells (sv x1376000_2) 73 (0, 0))) := ⟨by (with_reducible repeat (first | refine blk_drewN ?_ _ | refine blk_drew ?_ | refine blk_alloc ?_ _)); refine blk_far7 ?_ NB1375_1381.out; (with_reducible repeat (first | refine blk_drewN ?_ _ | refine blk_drew ?_ | refine blk_alloc ?_ _)); exact BK1375.out⟩
                        have n4_ : Aside0 ((World.setCell (World.setCell (World.setCell (World.setCell (World.setCell (World.setCell (World.setCell w66 ⟨gb1381, 0, none⟩ (.int .u64 (g7 t1380 0))) ⟨gb1381, 1, none⟩ (.int .u64 (g7 t1380 1))) ⟨gb1381, 2, none⟩ (.int .u64 (g7 t1380 2))) ⟨gb1381, 3, none⟩ (.int .u64 (g7 t1380 3))) ⟨gb1381, 4, none⟩ (.int .u64 (g7 t1380 4))) ⟨gb1381, 5, none⟩ (.int .u64 (g7 t1380 5))) ⟨gb1381, 6, none⟩ (.int .u64 (g7 t1380 6))).heap[gb1379]? = some (.cells (sv t1378) 73 (0, 0))) := ⟨by (with_reducible repeat (first | refine blk_drewN ?_ _ | refine blk_drew ?_ | refine blk_alloc ?_ _)); refine blk_far7 ?_ NB1379_1381.out; (with_reducible repeat (first | refine blk_drewN ?_ _ | refine blk_drew ?_ | refine blk_alloc ?_ _)); exact BK1379.out⟩
                        have n5_ : Aside0 ((World.setCell (World.setCell (World.setCell (World.setCell (World.setCell (World.setCell (World.setCell w66 ⟨gb1381, 0, none⟩ (.int .u64 (g7 t1380 0))) ⟨gb1381, 1, none⟩ (.int .u64 (g7 t1380 1))) ⟨gb1381, 2, none⟩ (.int .u64 (g7 t1380 2))) ⟨gb1381, 3, none⟩ (.int .u64 (g7 t1380 3))) ⟨gb1381, 4, none⟩ (.int .u64 (g7 t1380 4))) ⟨gb1381, 5, none⟩ (.int .u64 (g7 t1380 5))) ⟨gb1381, 6, none⟩ (.int .u64 (g7 t1380 6))).heap[gb1381]? = some (.cells (sv t1380) 73 (0, 0))) := ⟨by (with_reducible repeat (first | refine blk_drewN ?_ _ | refine blk_drew ?_ | refine blk_alloc ?_ _)); refine blk_put7z ?_; (with_reducible repeat (first | refine blk_drewN ?_ _ | refine blk_drew ?_ | refine blk_alloc ?_ _)); exact BK1381.out⟩
                        have n6_ : Aside0 (Below w.heap.size w (World.setCell (World.setCell (World.setCell (World.setCell (World.setCell (World.setCell (World.setCell w66 ⟨gb1381, 0, none⟩ (.int .u64 (g7 t1380 0))) ⟨gb1381, 1, none⟩ (.int .u64 (g7 t1380 1))) ⟨gb1381, 2, none⟩ (.int .u64 (g7 t1380 2))) ⟨gb1381, 3, none⟩ (.int .u64 (g7 t1380 3))) ⟨gb1381, 4, none⟩ (.int .u64 (g7 t1380 4))) ⟨gb1381, 5, none⟩ (.int .u64 (g7 t1380 5))) ⟨gb1381, 6, none⟩ (.int .u64 (g7 t1380 6)))) := ⟨by repeat (first | (with_reducible first | exact HB.out | apply below_alloc | apply pw_below_drewN | apply below_drew1 | refine below_set ?_ GE1363.out | refine below_set ?_ GE1367.out | refine below_set ?_ GE1371.out | refine below_set ?_ GE1375.out | refine below_set ?_ GE1379.out | refine below_set ?_ GE1381.out) | exact HB.out)⟩
                        (try clear BK1363)
                        (try clear BK1367)
                        (try clear BK1371)
                        (try clear BK1375)
                        (try clear BK1379)
                        (try clear BK1381)
                        (try clear HB)
                        generalize (World.setCell (World.setCell (World.setCell (World.setCell (World.setCell (World.setCell (World.setCell w66 ⟨gb1381, 0, none⟩ (.int .u64 (g7 t1380 0))) ⟨gb1381, 1, none⟩ (.int .u64 (g7 t1380 1))) ⟨gb1381, 2, none⟩ (.int .u64 (g7 t1380 2))) ⟨gb1381, 3, none⟩ (.int .u64 (g7 t1380 3))) ⟨gb1381, 4, none⟩ (.int .u64 (g7 t1380 4))) ⟨gb1381, 5, none⟩ (.int .u64 (g7 t1380 5))) ⟨gb1381, 6, none⟩ (.int .u64 (g7 t1380 6))) = w82 at n0_ n1_ n2_ n3_ n4_ n5_ n6_ ⊢
                        have BK1363 := n0_
                        have BK1367 := n1_
                        have BK1371 := n2_
                        have BK1375 := n3_
                        have BK1379 := n4_
                        have BK1381 := n5_
                        have HB := n6_
                        clear n0_ n1_ n2_ n3_ n4_ n5_ n6_
                        have n0_ := Aside0.mk (blk_drew BK1363.out)
                        have n1_ := Aside0.mk (blk_drew BK1367.out)
                        have n2_ := Aside0.mk (blk_drew BK1371.out)
                        have n3_ := Aside0.mk (blk_drew BK1375.out)
                        have n4_ := Aside0.mk (blk_drew BK1379.out)
                        have n5_ := Aside0.mk (blk_drew BK1381.out)
                        have n6_ := Aside0.mk (below_drew1 HB.out)
                        clear BK1363
                        clear BK1367
                        clear BK1371
                        clear BK1375
                        clear BK1379
                        clear BK1381
                        clear HB
                        have BK1363 := n0_
                        have BK1367 := n1_
                        have BK1371 := n2_
                        have BK1375 := n3_
                        have BK1379 := n4_
                        have BK1381 := n5_
                        have HB := n6_
                        clear n0_ n1_ n2_ n3_ n4_ n5_ n6_
                        refine start_ (n := 35) (S := fun w' => c7 w' gb1379 t1378 ∧ c7 w' gb1381 t1380 ∧ w'.cell? ⟨gb1363, 0, none⟩ = some (.int .i64 a2_0) ∧ w'.cell? ⟨gb1363, 1, none⟩ = some (.int .i64 a2_1)) (ds := []) #[false, false, false, false, false, false, false, false, false, false, false, false, false, false, false, false, false, false, false, false, false, false, false, false, false, false, false, false, false, false, false, false, false, false, false] (by kernel_rfl) rfl rfl ⟨c7_of BK1379.out rfl, c7_of BK1381.out rfl, (blk_cell BK1363.out 0).trans rfl, (blk_cell BK1363.out 1).trans rfl⟩ (fun hHeld => ?_); refine with_tabW chicorylaw06_ScalarLong.tab12 chicorylaw06_ScalarLong.bits12 (fun HT_ HW_ => ?_)
                        generalize w82.drew = w83 at BK1363 BK1367 BK1371 BK1375 BK1379 BK1381 HB hHeld ⊢
                        refine pure_ (i := 3) (N := some 86) (v := ?_) (a' := ?_) #[false, false, false, true, false, false, false, false, false, false, false, false, false, false, false, false, false, false, false, false, false, false, false, false, false, false, false, false, false, false, false, false, false, false, false] rfl rfl (any_of HT_.out (by kernel_rfl)) (fun _ _ _ h => h) (Or.inl ⟨by rfl, ?_⟩) ?_ ?_
                        rotate_left
                        · intro w'
                          go_simp
                          with_reducible rfl
                        rotate_left
                        · simp only [Act.put, List.setIfInBounds_toArray, List.set_cons_zero, List.set_cons_succ, i64_w, i32_w]
                          rfl
                        refine pure_ (i := 5) (N := some 88) (v := ?_) (a' := ?_) #[false, false, false, true, false, true, false, false, false, false, false, false, false, false, false, false, false, false, false, false, false, false, false, false, false, false, false, false, false, false, false, false, false, false, false] rfl rfl (any_of HT_.out (by kernel_rfl)) (fun _ _ _ h => h) (Or.inl ⟨by rfl, ?_⟩) ?_ ?_
                        rotate_left
                        · intro w'
                          go_simp
                          with_reducible rfl
                        rotate_left
                        · simp only [Act.put, List.setIfInBounds_toArray, List.set_cons_zero, List.set_cons_succ, i64_w, i32_w]
                          rfl
                        refine take_ (i := 0) (N := some 83) (v := ?_) (a' := ?_) #[true, false, false, true, false, true, false, false, false, false, false, false, false, false, false, false, false, false, false, false, false, false, false, false, false, false, false, false, false, false, false, false, false, false, false] rfl rfl (take_ofW HT_.out HW_.out (by kernel_rfl)) (fun _ _ _ h => h) (Or.inl ⟨by rfl, ?_⟩) hHeld ?_ ?_
                        rotate_left
                        · rintro w' ⟨⟨s0, s0_c1, s0_c2, s0_c3, s0_c4, s0_c5, s0_c6⟩, ⟨s1, s1_c1, s1_c2, s1_c3, s1_c4, s1_c5, s1_c6⟩, s2, s3⟩
                          go_simp
                          with_reducible rfl
                        rotate_left
                        · simp only [Act.put, List.setIfInBounds_toArray, List.set_cons_zero, List.set_cons_succ, i64_w, i32_w]
                          rfl
                        refine take_ (i := 1) (N := some 84) (v := ?_) (a' := ?_) #[true, true, false, true, false, true, false, false, false, false, false, false, false, false, false, false, false, false, false, false, false, false, false, false, false, false, false, false, false, false, false, false, false, false, false] rfl rfl (take_ofW HT_.out HW_.out (by kernel_rfl)) (fun _ _ _ h => h) (Or.inl ⟨by rfl, ?_⟩) hHeld ?_ ?_
                        rotate_left
                        · rintro w' ⟨⟨s0, s0_c1, s0_c2, s0_c3, s0_c4, s0_c5, s0_c6⟩, ⟨s1, s1_c1, s1_c2, s1_c3, s1_c4, s1_c5, s1_c6⟩, s2, s3⟩
                          go_simp
                          with_reducible rfl
                        rotate_left
                        · simp only [Act.put, List.setIfInBounds_toArray, List.set_cons_zero, List.set_cons_succ, i64_w, i32_w]
                          rfl
                        refine take_ (i := 4) (N := some 87) (v := ?_) (a' := ?_) #[true, true, false, true, true, true, false, false, false, false, false, false, false, false, false, false, false, false, false, false, false, false, false, false, false, false, false, false, false, false, false, false, false, false, false] rfl rfl (take_ofW HT_.out HW_.out (by kernel_rfl)) (fun _ _ _ h => h) (Or.inl ⟨by rfl, ?_⟩) hHeld ?_ ?_
                        rotate_left
                        · rintro w' ⟨⟨s0, s0_c1, s0_c2, s0_c3, s0_c4, s0_c5, s0_c6⟩, ⟨s1, s1_c1, s1_c2, s1_c3, s1_c4, s1_c5, s1_c6⟩, s2, s3⟩
                          go_simp
                          with_reducible rfl
                        rotate_left
                        · simp only [Act.put, List.setIfInBounds_toArray, List.set_cons_zero, List.set_cons_succ, i64_w, i32_w]
                          rfl
                        refine take_ (i := 6) (N := some 89) (v := ?_) (a' := ?_) #[true, true, false, true, true, true, true, false, false, false, false, false, false, false, false, false, false, false, false, false, false, false, false, false, false, false, false, false, false, false, false, false, false, false, false] rfl rfl (take_ofW HT_.out HW_.out (by kernel_rfl)) (fun _ _ _ h => h) (Or.inl ⟨by rfl, ?_⟩) hHeld ?_ ?_
                        rotate_left
                        · rintro w' ⟨⟨s0, s0_c1, s0_c2, s0_c3, s0_c4, s0_c5, s0_c6⟩, ⟨s1, s1_c1, s1_c2, s1_c3, s1_c4, s1_c5, s1_c6⟩, s2, s3⟩
                          go_simp
                          with_reducible rfl
                        rotate_left
                        · simp only [Act.put, List.setIfInBounds_toArray, List.set_cons_zero, List.set_cons_succ, i64_w, i32_w]
                          rfl
                        refine pure_ (i := 7) (N := some 90) (v := ?_) (a' := ?_) #[true, true, false, true, true, true, true, true, false, false, false, false, false, false, false, false, false, false, false, false, false, false, false, false, false, false, false, false, false, false, false, false, false, false, false] rfl rfl (any_of HT_.out (by kernel_rfl)) (fun _ _ _ h => h) (Or.inl ⟨by rfl, ?_⟩) ?_ ?_
                        rotate_left
                        · intro w'
                          go_simp
                          with_reducible rfl
                        rotate_left
                        · simp only [Act.put, List.setIfInBounds_toArray, List.set_cons_zero, List.set_cons_succ, i64_w, i32_w]
                          rfl
                        refine one_ (i := 2) (N := some 85) #[true, true, true, true, true, true, true, true, false, false, false, false, false, false, false, false, false, false, false, false, false, false, false, false, false, false, false, false, false, false, false, false, false, false, false] rfl rfl (one_of HT_.out (by kernel_rfl)) (by decide) (fun K hK => ?_)
                        refine goes_ Try.func64 (by kernel_rfl) rfl #[.agg (sv t1378), .agg (sv t1380)] (by rfl) rfl rfl (by (try simp only [List.map_toArray, List.map_cons, List.map_nil]); first | done | rfl | (simp only [List.length_drop, List.length_take]; rfl)) ?_
                        with_reducible refine (scalar_Add.calls k2 t1378 t1380 t1382 _ A73.out).mono ?_
                        rintro e w84 ⟨rfl, hb⟩
                        refine ⟨_, rfl, ?_⟩
                        have n0_ := Aside0.mk (blk_below (g := gb1363) (o := .cells #[.int .i64 a2_0, .int .i64 a2_1] 63 (0, 0)) (by (with_reducible repeat (first | refine blk_drewN ?_ _ | refine blk_drew ?_ | refine blk_alloc ?_ _)); exact BK1363.out) hb)
                        have n1_ := Aside0.mk (blk_below (g := gb1367) (o := .cells (sv t1365) 73 (0, 0)) (by (with_reducible repeat (first | refine blk_drewN ?_ _ | refine blk_drew ?_ | refine blk_alloc ?_ _)); exact BK1367.out) hb)
                        have n2_ := Aside0.mk (blk_below (g := gb1371) (o := .cells (sv t1369) 73 (0, 0)) (by (with_reducible repeat (first | refine blk_drewN ?_ _ | refine blk_drew ?_ | refine blk_alloc ?_ _)); exact BK1371.out) hb)
                        have n3_ := Aside0.mk (blk_below (g := gb1375) (o := .cells (sv x1376000_2) 73 (0, 0)) (by (with_reducible repeat (first | refine blk_drewN ?_ _ | refine blk_drew ?_ | refine blk_alloc ?_ _)); exact BK1375.out) hb)
                        have n4_ := Aside0.mk (blk_below (g := gb1379) (o := .cells (sv t1378) 73 (0, 0)) (by (with_reducible repeat (first | refine blk_drewN ?_ _ | refine blk_drew ?_ | refine blk_alloc ?_ _)); exact BK1379.out) hb)
                        have n5_ := Aside0.mk (blk_below (g := gb1381) (o := .cells (sv t1380) 73 (0, 0)) (by (with_reducible repeat (first | refine blk_drewN ?_ _ | refine blk_drew ?_ | refine blk_alloc ?_ _)); exact BK1381.out) hb)
                        have n6_ := Aside0.mk (below_step (by repeat (first | (with_reducible first | exact HB.out | apply below_alloc | apply pw_below_drewN | apply below_drew1 | refine below_set ?_ GE1363.out | refine below_set ?_ GE1367.out | refine below_set ?_ GE1371.out | refine below_set ?_ GE1375.out | refine below_set ?_ GE1379.out | refine below_set ?_ GE1381.out) | exact HB.out)) hb)
                        clear BK1363
                        clear BK1367
                        clear BK1371
                        clear BK1375
                        clear BK1379
                        clear BK1381
                        clear HB
                        have BK1363 := n0_
                        have BK1367 := n1_
                        have BK1371 := n2_
                        have BK1375 := n3_
                        have BK1379 := n4_
                        have BK1381 := n5_
                        have HB := n6_
                        clear n0_ n1_ n2_ n3_ n4_ n5_ n6_
                        (try clear hb)
                        (try clear hb2)
                        (try clear hk)
                        (try clear hi)
                        refine hK.out _ _ ⟨c7_of BK1379.out rfl, c7_of BK1381.out rfl, (blk_cell BK1363.out 0).trans rfl, (blk_cell BK1363.out 1).trans rfl⟩ (fun hHeld => ?_)
                        clear hK K
                        refine norm_ (a' := ?_) ?_ ?_
                        rotate_left
                        · show Act.put _ (some 85) _ = _
                          simp only [Act.put, List.setIfInBounds_toArray, List.set_cons_zero, List.set_cons_succ, i64_w, i32_w]
                          rfl
                        refine one_ (i := 8) (N := some 91) #[true, true, true, true, true, true, true, true, true, false, false, false, false, false, false, false, false, false, false, false, false, false, false, false, false, false, false, false, false, false, false, false, false, false, false] rfl rfl (one_of HT_.out (by kernel_rfl)) (by decide) (fun K hK => ?_)
                        refine goes_ Try.func69 (by kernel_rfl) rfl #[.int .i64 (wrap64 (a2_0 + a2_1))] (by rfl) rfl rfl (by (try simp only [List.map_toArray, List.map_cons, List.map_nil]); first | done | rfl | (simp only [List.length_drop, List.length_take]; rfl)) ?_
                        with_reducible refine (scalar_Int.calls k2 (wrap64 (a2_0 + a2_1)) t1383 _ A74.out).mono ?_
                        rintro e w85 ⟨rfl, hb⟩
                        refine ⟨_, rfl, ?_⟩
                        have n0_ := Aside0.mk (blk_below (g := gb1363) (o := .cells #[.int .i64 a2_0, .int .i64 a2_1] 63 (0, 0)) (by (with_reducible repeat (first | refine blk_drewN ?_ _ | refine blk_drew ?_ | refine blk_alloc ?_ _)); exact BK1363.out) hb)
                        have n1_ := Aside0.mk (blk_below (g := gb1367) (o := .cells (sv t1365) 73 (0, 0)) (by (with_reducible repeat (first | refine blk_drewN ?_ _ | refine blk_drew ?_ | refine blk_alloc ?_ _)); exact BK1367.out) hb)
                        have n2_ := Aside0.mk (blk_below (g := gb1371) (o := .cells (sv t1369) 73 (0, 0)) (by (with_reducible repeat (first | refine blk_drewN ?_ _ | refine blk_drew ?_ | refine blk_alloc ?_ _)); exact BK1371.out) hb)
                        have n3_ := Aside0.mk (blk_below (g := gb1375) (o := .cells (sv x1376000_2) 73 (0, 0)) (by (with_reducible repeat (first | refine blk_drewN ?_ _ | refine blk_drew ?_ | refine blk_alloc ?_ _)); exact BK1375.out) hb)
                        have n4_ := Aside0.mk (blk_below (g := gb1379) (o := .cells (sv t1378) 73 (0, 0)) (by (with_reducible repeat (first | refine blk_drewN ?_ _ | refine blk_drew ?_ | refine blk_alloc ?_ _)); exact BK1379.out) hb)
                        have n5_ := Aside0.mk (blk_below (g := gb1381) (o := .cells (sv t1380) 73 (0, 0)) (by (with_reducible repeat (first | refine blk_drewN ?_ _ | refine blk_drew ?_ | refine blk_alloc ?_ _)); exact BK1381.out) hb)
                        have n6_ := Aside0.mk (below_step (by repeat (first | (with_reducible first | exact HB.out | apply below_alloc | apply pw_below_drewN | apply below_drew1 | refine below_set ?_ GE1363.out | refine below_set ?_ GE1367.out | refine below_set ?_ GE1371.out | refine below_set ?_ GE1375.out | refine below_set ?_ GE1379.out | refine below_set ?_ GE1381.out) | exact HB.out)) hb)
                        clear BK1363
                        clear BK1367
                        clear BK1371
                        clear BK1375
                        clear BK1379
                        clear BK1381
                        clear HB
                        have BK1363 := n0_
                        have BK1367 := n1_
                        have BK1371 := n2_
                        have BK1375 := n3_
                        have BK1379 := n4_
                        have BK1381 := n5_
                        have HB := n6_
                        clear n0_ n1_ n2_ n3_ n4_ n5_ n6_
                        (try clear hb)
                        (try clear hb2)
                        (try clear hk)
                        (try clear hi)
                        refine hK.out _ _ ⟨c7_of BK1379.out rfl, c7_of BK1381.out rfl, (blk_cell BK1363.out 0).trans rfl, (blk_cell BK1363.out 1).trans rfl⟩ (fun hHeld => ?_)
                        clear hK K
                        refine norm_ (a' := ?_) ?_ ?_
                        rotate_left
                        · show Act.put _ (some 91) _ = _
                          simp only [Act.put, List.setIfInBounds_toArray, List.set_cons_zero, List.set_cons_succ, i64_w, i32_w]
                          rfl
                        refine one_ (i := 9) (N := some 92) #[true, true, true, true, true, true, true, true, true, true, false, false, false, false, false, false, false, false, false, false, false, false, false, false, false, false, false, false, false, false, false, false, false, false, false] rfl rfl (one_of HT_.out (by kernel_rfl)) (by decide) (fun K hK => ?_)
                        refine goes_ Try.func76 (by kernel_rfl) rfl #[.agg (sv t1382), .agg (sv t1383)] (by rfl) rfl rfl (by (try simp only [List.map_toArray, List.map_cons, List.map_nil]); first | done | rfl | (simp only [List.length_drop, List.length_take]; rfl)) ?_
                        with_reducible refine (scalar_Equal.calls k2 t1382 t1383 true _ A75.out).mono ?_
                        rintro e w86 ⟨rfl, hb⟩
                        refine ⟨_, rfl, ?_⟩
                        have n0_ := Aside0.mk (blk_below (g := gb1363) (o := .cells #[.int .i64 a2_0, .int .i64 a2_1] 63 (0, 0)) (by (with_reducible repeat (first | refine blk_drewN ?_ _ | refine blk_drew ?_ | refine blk_alloc ?_ _)); exact BK1363.out) hb)
                        have n1_ := Aside0.mk (blk_below (g := gb1367) (o := .cells (sv t1365) 73 (0, 0)) (by (with_reducible repeat (first | refine blk_drewN ?_ _ | refine blk_drew ?_ | refine blk_alloc ?_ _)); exact BK1367.out) hb)
                        have n2_ := Aside0.mk (blk_below (g := gb1371) (o := .cells (sv t1369) 73 (0, 0)) (by (with_reducible repeat (first | refine blk_drewN ?_ _ | refine blk_drew ?_ | refine blk_alloc ?_ _)); exact BK1371.out) hb)
                        have n3_ := Aside0.mk (blk_below (g := gb1375) (o := .cells (sv x1376000_2) 73 (0, 0)) (by (with_reducible repeat (first | refine blk_drewN ?_ _ | refine blk_drew ?_ | refine blk_alloc ?_ _)); exact BK1375.out) hb)
                        have n4_ := Aside0.mk (blk_below (g := gb1379) (o := .cells (sv t1378) 73 (0, 0)) (by (with_reducible repeat (first | refine blk_drewN ?_ _ | refine blk_drew ?_ | refine blk_alloc ?_ _)); exact BK1379.out) hb)
                        have n5_ := Aside0.mk (blk_below (g := gb1381) (o := .cells (sv t1380) 73 (0, 0)) (by (with_reducible repeat (first | refine blk_drewN ?_ _ | refine blk_drew ?_ | refine blk_alloc ?_ _)); exact BK1381.out) hb)
                        have n6_ := Aside0.mk (below_step (by repeat (first | (with_reducible first | exact HB.out | apply below_alloc | apply pw_below_drewN | apply below_drew1 | refine below_set ?_ GE1363.out | refine below_set ?_ GE1367.out | refine below_set ?_ GE1371.out | refine below_set ?_ GE1375.out | refine below_set ?_ GE1379.out | refine below_set ?_ GE1381.out) | exact HB.out)) hb)
                        clear BK1363
                        clear BK1367
                        clear BK1371
                        clear BK1375
                        clear BK1379
                        clear BK1381
                        clear HB
                        have BK1363 := n0_
                        have BK1367 := n1_
                        have BK1371 := n2_
                        have BK1375 := n3_
                        have BK1379 := n4_
                        have BK1381 := n5_
                        have HB := n6_
                        clear n0_ n1_ n2_ n3_ n4_ n5_ n6_
                        (try clear hb)
                        (try clear hb2)
                        (try clear hk)
                        (try clear hi)
                        refine hK.out _ _ ⟨c7_of BK1379.out rfl, c7_of BK1381.out rfl, (blk_cell BK1363.out 0).trans rfl, (blk_cell BK1363.out 1).trans rfl⟩ (fun hHeld => ?_)
                        clear hK K
                        refine norm_ (a' := ?_) ?_ ?_
                        rotate_left
                        · show Act.put _ (some 92) _ = _
                          simp only [Act.put, List.setIfInBounds_toArray, List.set_cons_zero, List.set_cons_succ, i64_w, i32_w]
                          rfl
                        refine pure_ (i := 10) (N := some 93) (v := ?_) (a' := ?_) #[true, true, true, true, true, true, true, true, true, true, true, false, false, false, false, false, false, false, false, false, false, false, false, false, false, false, false, false, false, false, false, false, false, false, false] rfl rfl (any_of HT_.out (by kernel_rfl)) (fun _ _ _ h => h) (Or.inl ⟨by rfl, ?_⟩) ?_ ?_
                        rotate_left
                        · intro w'
                          go_simp
                          with_reducible rfl
                        rotate_left
                        · simp only [Act.put, List.setIfInBounds_toArray, List.set_cons_zero, List.set_cons_succ, i64_w, i32_w]
                          rfl
                        refine pure_ (i := 11) (N := some 94) (v := ?_) (a' := ?_) #[true, true, true, true, true, true, true, true, true, true, true, true, false, false, false, false, false, false, false, false, false, false, false, false, false, false, false, false, false, false, false, false, false, false, false] rfl rfl (any_of HT_.out (by kernel_rfl)) (fun _ _ _ h => h) (Or.inl ⟨by rfl, ?_⟩) ?_ ?_
                        rotate_left
                        · intro w'
                          go_simp
                          with_reducible rfl
                        rotate_left
                        · simp only [Act.put, List.setIfInBounds_toArray, List.set_cons_zero, List.set_cons_succ, i64_w, i32_w]
                          rfl
                        refine pure_ (i := 15) (N := some 98) (v := ?_) (a' := ?_) #[true, true, true, true, true, true, true, true, true, true, true, true, false, false, false, true, false, false, false, false, false, false, false, false, false, false, false, false, false, false, false, false, false, false, false] rfl rfl (any_of HT_.out (by kernel_rfl)) (fun _ _ _ h => h) (Or.inl ⟨by rfl, ?_⟩) ?_ ?_
                        rotate_left
                        · intro w'
                          go_simp
                          with_reducible rfl
                        rotate_left
                        · simp only [Act.put, List.setIfInBounds_toArray, List.set_cons_zero, List.set_cons_succ, i64_w, i32_w]
                          rfl
                        refine pure_ (i := 17) (N := some 100) (v := ?_) (a' := ?_) #[true, true, true, true, true, true, true, true, true, true, true, true, false, false, false, true, false, true, false, false, false, false, false, false, false, false, false, false, false, false, false, false, false, false, false] rfl rfl (any_of HT_.out (by kernel_rfl)) (fun _ _ _ h => h) (Or.inl ⟨by rfl, ?_⟩) ?_ ?_
                        rotate_left
                        · intro w'
                          go_simp
                          with_reducible rfl
                        rotate_left
                        · simp only [Act.put, List.setIfInBounds_toArray, List.set_cons_zero, List.set_cons_succ, i64_w, i32_w]
                          rfl
                        refine take_ (i := 12) (N := some 95) (v := ?_) (a' := ?_) #[true, true, true, true, true, true, true, true, true, true, true, true, true, false, false, true, false, true, false, false, false, false, false, false, false, false, false, false, false, false, false, false, false, false, false] rfl rfl (take_ofW HT_.out HW_.out (by kernel_rfl)) (fun _ _ _ h => h) (Or.inl ⟨by rfl, ?_⟩) hHeld ?_ ?_
                        rotate_left
                        · rintro w' ⟨⟨s0, s0_c1, s0_c2, s0_c3, s0_c4, s0_c5, s0_c6⟩, ⟨s1, s1_c1, s1_c2, s1_c3, s1_c4, s1_c5, s1_c6⟩, s2, s3⟩
                          go_simp
                          with_reducible rfl
                        rotate_left
                        · simp only [Act.put, List.setIfInBounds_toArray, List.set_cons_zero, List.set_cons_succ, i64_w, i32_w]
                          rfl
                        refine take_ (i := 13) (N := some 96) (v := ?_) (a' := ?_) #[true, true, true, true, true, true, true, true, true, true, true, true, true, true, false, true, false, true, false, false, false, false, false, false, false, false, false, false, false, false, false, false, false, false, false] rfl rfl (take_ofW HT_.out HW_.out (by kernel_rfl)) (fun _ _ _ h => h) (Or.inl ⟨by rfl, ?_⟩) hHeld ?_ ?_
                        rotate_left
                        · rintro w' ⟨⟨s0, s0_c1, s0_c2, s0_c3, s0_c4, s0_c5, s0_c6⟩, ⟨s1, s1_c1, s1_c2, s1_c3, s1_c4, s1_c5, s1_c6⟩, s2, s3⟩
                          go_simp
                          with_reducible rfl
                        rotate_left
                        · simp only [Act.put, List.setIfInBounds_toArray, List.set_cons_zero, List.set_cons_succ, i64_w, i32_w]
                          rfl
                        refine take_ (i := 16) (N := some 99) (v := ?_) (a' := ?_) #[true, true, true, true, true, true, true, true, true, true, true, true, true, true, false, true, true, true, false, false, false, false, false, false, false, false, false, false, false, false, false, false, false, false, false] rfl rfl (take_ofW HT_.out HW_.out (by kernel_rfl)) (fun _ _ _ h => h) (Or.inl ⟨by rfl, ?_⟩) hHeld ?_ ?_
                        rotate_left
                        · rintro w' ⟨⟨s0, s0_c1, s0_c2, s0_c3, s0_c4, s0_c5, s0_c6⟩, ⟨s1, s1_c1, s1_c2, s1_c3, s1_c4, s1_c5, s1_c6⟩, s2, s3⟩
                          go_simp
                          with_reducible rfl
                        rotate_left
                        · simp only [Act.put, List.setIfInBounds_toArray, List.set_cons_zero, List.set_cons_succ, i64_w, i32_w]
                          rfl
                        refine take_ (i := 18) (N := some 101) (v := ?_) (a' := ?_) #[true, true, true, true, true, true, true, true, true, true, true, true, true, true, false, true, true, true, true, false, false, false, false, false, false, false, false, false, false, false, false, false, false, false, false] rfl rfl (take_ofW HT_.out HW_.out (by kernel_rfl)) (fun _ _ _ h => h) (Or.inl ⟨by rfl, ?_⟩) hHeld ?_ ?_
                        rotate_left
                        · rintro w' ⟨⟨s0, s0_c1, s0_c2, s0_c3, s0_c4, s0_c5, s0_c6⟩, ⟨s1, s1_c1, s1_c2, s1_c3, s1_c4, s1_c5, s1_c6⟩, s2, s3⟩
                          go_simp
                          with_reducible rfl
                        rotate_left
                        · simp only [Act.put, List.setIfInBounds_toArray, List.set_cons_zero, List.set_cons_succ, i64_w, i32_w]
                          rfl
                        refine pure_ (i := 19) (N := some 102) (v := ?_) (a' := ?_) #[true, true, true, true, true, true, true, true, true, true, true, true, true, true, false, true, true, true, true, true, false, false, false, false, false, false, false, false, false, false, false, false, false, false, false] rfl rfl (any_of HT_.out (by kernel_rfl)) (fun _ _ _ h => h) (Or.inl ⟨by rfl, ?_⟩) ?_ ?_
                        rotate_left
                        · intro w'
                          go_simp
                          with_reducible rfl
                        rotate_left
                        · simp only [Act.put, List.setIfInBounds_toArray, List.set_cons_zero, List.set_cons_succ, i64_w, i32_w]
                          rfl
                        refine one_ (i := 14) (N := some 97) #[true, true, true, true, true, true, true, true, true, true, true, true, true, true, true, true, true, true, true, true, false, false, false, false, false, false, false, false, false, false, false, false, false, false, false] rfl rfl (one_of HT_.out (by kernel_rfl)) (by decide) (fun K hK => ?_)
                        refine goes_ Try.func72 (by kernel_rfl) rfl #[.agg (sv t1378), .agg (sv t1380)] (by rfl) rfl rfl (by (try simp only [List.map_toArray, List.map_cons, List.map_nil]); first | done | rfl | (simp only [List.length_drop, List.length_take]; rfl)) ?_
                        with_reducible refine (scalar_Mul.calls k2 t1378 t1380 t1385 _ A77.out).mono ?_
                        rintro e w87 ⟨rfl, hb⟩
                        refine ⟨_, rfl, ?_⟩
                        have n0_ := Aside0.mk (blk_below (g := gb1363) (o := .cells #[.int .i64 a2_0, .int .i64 a2_1] 63 (0, 0)) (by (with_reducible repeat (first | refine blk_drewN ?_ _ | refine blk_drew ?_ | refine blk_alloc ?_ _)); exact BK1363.out) hb)
                        have n1_ := Aside0.mk (blk_below (g := gb1367) (o := .cells (sv t1365) 73 (0, 0)) (by (with_reducible repeat (first | refine blk_drewN ?_ _ | refine blk_drew ?_ | refine blk_alloc ?_ _)); exact BK1367.out) hb)
                        have n2_ := Aside0.mk (blk_below (g := gb1371) (o := .cells (sv t1369) 73 (0, 0)) (by (with_reducible repeat (first | refine blk_drewN ?_ _ | refine blk_drew ?_ | refine blk_alloc ?_ _)); exact BK1371.out) hb)
                        have n3_ := Aside0.mk (blk_below (g := gb1375) (o := .cells (sv x1376000_2) 73 (0, 0)) (by (with_reducible repeat (first | refine blk_drewN ?_ _ | refine blk_drew ?_ | refine blk_alloc ?_ _)); exact BK1375.out) hb)
                        have n4_ := Aside0.mk (blk_below (g := gb1379) (o := .cells (sv t1378) 73 (0, 0)) (by (with_reducible repeat (first | refine blk_drewN ?_ _ | refine blk_drew ?_ | refine blk_alloc ?_ _)); exact BK1379.out) hb)
                        have n5_ := Aside0.mk (blk_below (g := gb1381) (o := .cells (sv t1380) 73 (0, 0)) (by (with_reducible repeat (first | refine blk_drewN ?_ _ | refine blk_drew ?_ | refine blk_alloc ?_ _)); exact BK1381.out) hb)
                        have n6_ := Aside0.mk (below_step (by repeat (first | (with_reducible first | exact HB.out | apply below_alloc | apply pw_below_drewN | apply below_drew1 | refine below_set ?_ GE1363.out | refine below_set ?_ GE1367.out | refine below_set ?_ GE1371.out | refine below_set ?_ GE1375.out | refine below_set ?_ GE1379.out | refine below_set ?_ GE1381.out) | exact HB.out)) hb)
                        clear BK1363
                        clear BK1367
                        clear BK1371
                        clear BK1375
                        clear BK1379
                        clear BK1381
                        clear HB
                        have BK1363 := n0_
                        have BK1367 := n1_
                        have BK1371 := n2_
                        have BK1375 := n3_
                        have BK1379 := n4_
                        have BK1381 := n5_
                        have HB := n6_
                        clear n0_ n1_ n2_ n3_ n4_ n5_ n6_
                        (try clear hb)
                        (try clear hb2)
                        (try clear hk)
                        (try clear hi)
                        refine hK.out _ _ ⟨c7_of BK1379.out rfl, c7_of BK1381.out rfl, (blk_cell BK1363.out 0).trans rfl, (blk_cell BK1363.out 1).trans rfl⟩ (fun hHeld => ?_)
                        clear hK K
                        refine norm_ (a' := ?_) ?_ ?_
                        rotate_left
                        · show Act.put _ (some 97) _ = _
                          simp only [Act.put, List.setIfInBounds_toArray, List.set_cons_zero, List.set_cons_succ, i64_w, i32_w]
                          rfl
                        refine one_ (i := 20) (N := some 103) #[true, true, true, true, true, true, true, true, true, true, true, true, true, true, true, true, true, true, true, true, true, false, false, false, false, false, false, false, false, false, false, false, false, false, false] rfl rfl (one_of HT_.out (by kernel_rfl)) (by decide) (fun K hK => ?_)
                        refine goes_ Try.func69 (by kernel_rfl) rfl #[.int .i64 (wrap64 (a2_0 * a2_1))] (by rfl) rfl rfl (by (try simp only [List.map_toArray, List.map_cons, List.map_nil]); first | done | rfl | (simp only [List.length_drop, List.length_take]; rfl)) ?_
                        with_reducible refine (scalar_Int.calls k2 (wrap64 (a2_0 * a2_1)) t1386 _ A78.out).mono ?_
                        rintro e w88 ⟨rfl, hb⟩
                        refine ⟨_, rfl, ?_⟩
                        have n0_ := Aside0.mk (blk_below (g := gb1363) (o := .cells #[.int .i64 a2_0, .int .i64 a2_1] 63 (0, 0)) (by (with_reducible repeat (first | refine blk_drewN ?_ _ | refine blk_drew ?_ | refine blk_alloc ?_ _)); exact BK1363.out) hb)
                        have n1_ := Aside0.mk (blk_below (g := gb1367) (o := .cells (sv t1365) 73 (0, 0)) (by (with_reducible repeat (first | refine blk_drewN ?_ _ | refine blk_drew ?_ | refine blk_alloc ?_ _)); exact BK1367.out) hb)
                        have n2_ := Aside0.mk (blk_below (g := gb1371) (o := .cells (sv t1369) 73 (0, 0)) (by (with_reducible repeat (first | refine blk_drewN ?_ _ | refine blk_drew ?_ | refine blk_alloc ?_ _)); exact BK1371.out) hb)
                        have n3_ := Aside0.mk (blk_below (g := gb1375) (o := .cells (sv x1376000_2) 73 (0, 0)) (by (with_reducible repeat (first | refine blk_drewN ?_ _ | refine blk_drew ?_ | refine blk_alloc ?_ _)); exact BK1375.out) hb)
                        have n4_ := Aside0.mk (blk_below (g := gb1379) (o := .cells (sv t1378) 73 (0, 0)) (by (with_reducible repeat (first | refine blk_drewN ?_ _ | refine blk_drew ?_ | refine blk_alloc ?_ _)); exact BK1379.out) hb)
                        have n5_ := Aside0.mk (blk_below (g := gb1381) (o := .cells (sv t1380) 73 (0, 0)) (by (with_reducible repeat (first | refine blk_drewN ?_ _ | refine blk_drew ?_ | refine blk_alloc ?_ _)); exact BK1381.out) hb)
                        have n6_ := Aside0.mk (below_step (by repeat (first | (with_reducible first | exact HB.out | apply below_alloc | apply pw_below_drewN | apply below_drew1 | refine below_set ?_ GE1363.out | refine below_set ?_ GE1367.out | refine below_set ?_ GE1371.out | refine below_set ?_ GE1375.out | refine below_set ?_ GE1379.out | refine below_set ?_ GE1381.out) | exact HB.out)) hb)
                        clear BK1363
                        clear BK1367
                        clear BK1371
                        clear BK1375
                        clear BK1379
                        clear BK1381
                        clear HB
                        have BK1363 := n0_
                        have BK1367 := n1_
                        have BK1371 := n2_
                        have BK1375 := n3_
                        have BK1379 := n4_
                        have BK1381 := n5_
                        have HB := n6_
                        clear n0_ n1_ n2_ n3_ n4_ n5_ n6_
                        (try clear hb)
                        (try clear hb2)
                        (try clear hk)
                        (try clear hi)
                        refine hK.out _ _ ⟨c7_of BK1379.out rfl, c7_of BK1381.out rfl, (blk_cell BK1363.out 0).trans rfl, (blk_cell BK1363.out 1).trans rfl⟩ (fun hHeld => ?_)
                        clear hK K
                        refine norm_ (a' := ?_) ?_ ?_
                        rotate_left
                        · show Act.put _ (some 103) _ = _
                          simp only [Act.put, List.setIfInBounds_toArray, List.set_cons_zero, List.set_cons_succ, i64_w, i32_w]
                          rfl
                        refine one_ (i := 21) (N := some 104) #[true, true, true, true, true, true, true, true, true, true, true, true, true, true, true, true, true, true, true, true, true, true, false, false, false, false, false, false, false, false, false, false, false, false, false] rfl rfl (one_of HT_.out (by kernel_rfl)) (by decide) (fun K hK => ?_)
                        refine goes_ Try.func76 (by kernel_rfl) rfl #[.agg (sv t1385), .agg (sv t1386)] (by rfl) rfl rfl (by (try simp only [List.map_toArray, List.map_cons, List.map_nil]); first | done | rfl | (simp only [List.length_drop, List.length_take]; rfl)) ?_
                        with_reducible refine (scalar_Equal.calls k2 t1385 t1386 true _ A79.out).mono ?_
                        rintro e w89 ⟨rfl, hb⟩
                        refine ⟨_, rfl, ?_⟩
                        have n0_ := Aside0.mk (blk_below (g := gb1363) (o := .cells #[.int .i64 a2_0, .int .i64 a2_1] 63 (0, 0)) (by (with_reducible repeat (first | refine blk_drewN ?_ _ | refine blk_drew ?_ | refine blk_alloc ?_ _)); exact BK1363.out) hb)
                        have n1_ := Aside0.mk (blk_below (g := gb1367) (o := .cells (sv t1365) 73 (0, 0)) (by (with_reducible repeat (first | refine blk_drewN ?_ _ | refine blk_drew ?_ | refine blk_alloc ?_ _)); exact BK1367.out) hb)
                        have n2_ := Aside0.mk (blk_below (g := gb1371) (o := .cells (sv t1369) 73 (0, 0)) (by (with_reducible repeat (first | refine blk_drewN ?_ _ | refine blk_drew ?_ | refine blk_alloc ?_ _)); exact BK1371.out) hb)
                        have n3_ := Aside0.mk (blk_below (g := gb1375) (o := .cells (sv x1376000_2) 73 (0, 0)) (by (with_reducible repeat (first | refine blk_drewN ?_ _ | refine blk_drew ?_ | refine blk_alloc ?_ _)); exact BK1375.out) hb)
                        have n4_ := Aside0.mk (blk_below (g := gb1379) (o := .cells (sv t1378) 73 (0, 0)) (by (with_reducible repeat (first | refine blk_drewN ?_ _ | refine blk_drew ?_ | refine blk_alloc ?_ _)); exact BK1379.out) hb)
                        have n5_ := Aside0.mk (blk_below (g := gb1381) (o := .cells (sv t1380) 73 (0, 0)) (by (with_reducible repeat (first | refine blk_drewN ?_ _ | refine blk_drew ?_ | refine blk_alloc ?_ _)); exact BK1381.out) hb)
                        have n6_ := Aside0.mk (below_step (by repeat (first | (with_reducible first | exact HB.out | apply below_alloc | apply pw_below_drewN | apply below_drew1 | refine below_set ?_ GE1363.out | refine below_set ?_ GE1367.out | refine below_set ?_ GE1371.out | refine below_set ?_ GE1375.out | refine below_set ?_ GE1379.out | refine below_set ?_ GE1381.out) | exact HB.out)) hb)
                        clear BK1363
                        clear BK1367
                        clear BK1371
                        clear BK1375
                        clear BK1379
                        clear BK1381
                        clear HB
                        have BK1363 := n0_
                        have BK1367 := n1_
                        have BK1371 := n2_
                        have BK1375 := n3_
                        have BK1379 := n4_
                        have BK1381 := n5_
                        have HB := n6_
                        clear n0_ n1_ n2_ n3_ n4_ n5_ n6_
                        (try clear hb)
                        (try clear hb2)
                        (try clear hk)
                        (try clear hi)
                        refine hK.out _ _ ⟨c7_of BK1379.out rfl, c7_of BK1381.out rfl, (blk_cell BK1363.out 0).trans rfl, (blk_cell BK1363.out 1).trans rfl⟩ (fun hHeld => ?_)
                        clear hK K
                        refine norm_ (a' := ?_) ?_ ?_
                        rotate_left
                        · show Act.put _ (some 104) _ = _
                          simp only [Act.put, List.setIfInBounds_toArray, List.set_cons_zero, List.set_cons_succ, i64_w, i32_w]
                          rfl
                        refine pure_ (i := 22) (N := some 105) (v := ?_) (a' := ?_) #[true, true, true, true, true, true, true, true, true, true, true, true, true, true, true, true, true, true, true, true, true, true, true, false, false, false, false, false, false, false, false, false, false, false, false] rfl rfl (any_of HT_.out (by kernel_rfl)) (fun _ _ _ h => h) (Or.inl ⟨by rfl, ?_⟩) ?_ ?_
                        rotate_left
                        · intro w'
                          go_simp
                          with_reducible rfl
                        rotate_left
                        · simp only [Act.put, List.setIfInBounds_toArray, List.set_cons_zero, List.set_cons_succ, i64_w, i32_w]
                          rfl
                        refine pure_ (i := 23) (N := some 106) (v := ?_) (a' := ?_) #[true, true, true, true, true, true, true, true, true, true, true, true, true, true, true, true, true, true, true, true, true, true, true, true, false, false, false, false, false, false, false, false, false, false, false] rfl rfl (any_of HT_.out (by kernel_rfl)) (fun _ _ _ h => h) (Or.inl ⟨by rfl, ?_⟩) ?_ ?_
                        rotate_left
                        · intro w'
                          go_simp
                          with_reducible rfl
                        rotate_left
                        · simp only [Act.put, List.setIfInBounds_toArray, List.set_cons_zero, List.set_cons_succ, i64_w, i32_w]
                          rfl
                        refine pure_ (i := 24) (N := some 107) (v := ?_) (a' := ?_) #[true, true, true, true, true, true, true, true, true, true, true, true, true, true, true, true, true, true, true, true, true, true, true, true, true, false, false, false, false, false, false, false, false, false, false] rfl rfl (any_of HT_.out (by kernel_rfl)) (fun _ _ _ h => h) (Or.inl ⟨by rfl, ?_⟩) ?_ ?_
                        rotate_left
                        · intro w'
                          go_simp
                          with_reducible rfl
                        rotate_left
                        · simp only [Act.put, List.setIfInBounds_toArray, List.set_cons_zero, List.set_cons_succ, i64_w, i32_w]
                          rfl
                        refine pure_ (i := 28) (N := some 111) (v := ?_) (a' := ?_) #[true, true, true, true, true, true, true, true, true, true, true, true, true, true, true, true, true, true, true, true, true, true, true, true, true, false, false, false, true, false, false, false, false, false, false] rfl rfl (any_of HT_.out (by kernel_rfl)) (fun _ _ _ h => h) (Or.inl ⟨by rfl, ?_⟩) ?_ ?_
                        rotate_left
                        · intro w'
                          go_simp
                          with_reducible rfl
                        rotate_left
                        · simp only [Act.put, List.setIfInBounds_toArray, List.set_cons_zero, List.set_cons_succ, i64_w, i32_w]
                          rfl
                        refine pure_ (i := 30) (N := some 113) (v := ?_) (a' := ?_) #[true, true, true, true, true, true, true, true, true, true, true, true, true, true, true, true, true, true, true, true, true, true, true, true, true, false, false, false, true, false, true, false, false, false, false] rfl rfl (any_of HT_.out (by kernel_rfl)) (fun _ _ _ h => h) (Or.inl ⟨by rfl, ?_⟩) ?_ ?_
                        rotate_left
                        · intro w'
                          go_simp
                          with_reducible rfl
                        rotate_left
                        · simp only [Act.put, List.setIfInBounds_toArray, List.set_cons_zero, List.set_cons_succ, i64_w, i32_w]
                          rfl
                        refine take_ (i := 25) (N := some 108) (v := ?_) (a' := ?_) #[true, true, true, true, true, true, true, true, true, true, true, true, true, true, true, true, true, true, true, true, true, true, true, true, true, true, false, false, true, false, true, false, false, false, false] rfl rfl (take_ofW HT_.out HW_.out (by kernel_rfl)) (fun _ _ _ h => h) (Or.inl ⟨by rfl, ?_⟩) hHeld ?_ ?_
                        rotate_left
                        · rintro w' ⟨⟨s0, s0_c1, s0_c2, s0_c3, s0_c4, s0_c5, s0_c6⟩, ⟨s1, s1_c1, s1_c2, s1_c3, s1_c4, s1_c5, s1_c6⟩, s2, s3⟩
                          go_simp
                          with_reducible rfl
                        rotate_left
                        · simp only [Act.put, List.setIfInBounds_toArray, List.set_cons_zero, List.set_cons_succ, i64_w, i32_w]
                          rfl
                        refine take_ (i := 26) (N := some 109) (v := ?_) (a' := ?_) #[true, true, true, true, true, true, true, true, true, true, true, true, true, true, true, true, true, true, true, true, true, true, true, true, true, true, true, false, true, false, true, false, false, false, false] rfl rfl (take_ofW HT_.out HW_.out (by kernel_rfl)) (fun _ _ _ h => h) (Or.inl ⟨by rfl, ?_⟩) hHeld ?_ ?_
                        rotate_left
                        · rintro w' ⟨⟨s0, s0_c1, s0_c2, s0_c3, s0_c4, s0_c5, s0_c6⟩, ⟨s1, s1_c1, s1_c2, s1_c3, s1_c4, s1_c5, s1_c6⟩, s2, s3⟩
                          go_simp
                          with_reducible rfl
                        rotate_left
                        · simp only [Act.put, List.setIfInBounds_toArray, List.set_cons_zero, List.set_cons_succ, i64_w, i32_w]
                          rfl
                        refine take_ (i := 29) (N := some 112) (v := ?_) (a' := ?_) #[true, true, true, true, true, true, true, true, true, true, true, true, true, true, true, true, true, true, true, true, true, true, true, true, true, true, true, false, true, true, true, false, false, false, false] rfl rfl (take_ofW HT_.out HW_.out (by kernel_rfl)) (fun _ _ _ h => h) (Or.inl ⟨by rfl, ?_⟩) hHeld ?_ ?_
                        rotate_left
                        · rintro w' ⟨⟨s0, s0_c1, s0_c2, s0_c3, s0_c4, s0_c5, s0_c6⟩, ⟨s1, s1_c1, s1_c2, s1_c3, s1_c4, s1_c5, s1_c6⟩, s2, s3⟩
                          go_simp
                          with_reducible rfl
                        rotate_left
                        · simp only [Act.put, List.setIfInBounds_toArray, List.set_cons_zero, List.set_cons_succ, i64_w, i32_w]
                          rfl
                        refine take_ (i := 31) (N := some 114) (v := ?_) (a' := ?_) #[true, true, true, true, true, true, true, true, true, true, true, true, true, true, true, true, true, true, true, true, true, true, true, true, true, true, true, false, true, true, true, true, false, false, false] rfl rfl (take_ofW HT_.out HW_.out (by kernel_rfl)) (fun _ _ _ h => h) (Or.inl ⟨by rfl, ?_⟩) hHeld ?_ ?_
                        rotate_left
                        · rintro w' ⟨⟨s0, s0_c1, s0_c2, s0_c3, s0_c4, s0_c5, s0_c6⟩, ⟨s1, s1_c1, s1_c2, s1_c3, s1_c4, s1_c5, s1_c6⟩, s2, s3⟩
                          go_simp
                          with_reducible rfl
                        rotate_left
                        · simp only [Act.put, List.setIfInBounds_toArray, List.set_cons_zero, List.set_cons_succ, i64_w, i32_w]
                          rfl
                        refine pure_ (i := 32) (N := some 115) (v := ?_) (a' := ?_) #[true, true, true, true, true, true, true, true, true, true, true, true, true, true, true, true, true, true, true, true, true, true, true, true, true, true, true, false, true, true, true, true, true, false, false] rfl rfl (any_of HT_.out (by kernel_rfl)) (fun _ _ _ h => h) (Or.inl ⟨by rfl, ?_⟩) ?_ ?_
                        rotate_left
                        · intro w'
                          go_simp
                          with_reducible rfl
                        rotate_left
                        · simp only [Act.put, List.setIfInBounds_toArray, List.set_cons_zero, List.set_cons_succ, i64_w, i32_w]
                          rfl
                        refine one_ (i := 27) (N := some 110) #[true, true, true, true, true, true, true, true, true, true, true, true, true, true, true, true, true, true, true, true, true, true, true, true, true, true, true, true, true, true, true, true, true, false, false] rfl rfl (one_of HT_.out (by kernel_rfl)) (by decide) (fun K hK => ?_)
                        refine goes_ Try.func76 (by kernel_rfl) rfl #[.agg (sv t1378), .agg (sv t1380)] (by rfl) rfl rfl (by (try simp only [List.map_toArray, List.map_cons, List.map_nil]); first | done | rfl | (simp only [List.length_drop, List.length_take]; rfl)) ?_
                        with_reducible refine (scalar_Equal.calls k2 t1378 t1380 t1388 _ A81.out).mono ?_
                        rintro e w90 ⟨rfl, hb⟩
                        refine ⟨_, rfl, ?_⟩
                        have n0_ := Aside0.mk (blk_below (g := gb1363) (o := .cells #[.int .i64 a2_0, .int .i64 a2_1] 63 (0, 0)) (by (with_reducible repeat (first | refine blk_drewN ?_ _ | refine blk_drew ?_ | refine blk_alloc ?_ _)); exact BK1363.out) hb)
                        have n1_ := Aside0.mk (blk_below (g := gb1367) (o := .cells (sv t1365) 73 (0, 0)) (by (with_reducible repeat (first | refine blk_drewN ?_ _ | refine blk_drew ?_ | refine blk_alloc ?_ _)); exact BK1367.out) hb)
                        have n2_ := Aside0.mk (blk_below (g := gb1371) (o := .cells (sv t1369) 73 (0, 0)) (by (with_reducible repeat (first | refine blk_drewN ?_ _ | refine blk_drew ?_ | refine blk_alloc ?_ _)); exact BK1371.out) hb)
                        have n3_ := Aside0.mk (blk_below (g := gb1375) (o := .cells (sv x1376000_2) 73 (0, 0)) (by (with_reducible repeat (first | refine blk_drewN ?_ _ | refine blk_drew ?_ | refine blk_alloc ?_ _)); exact BK1375.out) hb)
                        have n4_ := Aside0.mk (blk_below (g := gb1379) (o := .cells (sv t1378) 73 (0, 0)) (by (with_reducible repeat (first | refine blk_drewN ?_ _ | refine blk_drew ?_ | refine blk_alloc ?_ _)); exact BK1379.out) hb)
                        have n5_ := Aside0.mk (blk_below (g := gb1381) (o := .cells (sv t1380) 73 (0, 0)) (by (with_reducible repeat (first | refine blk_drewN ?_ _ | refine blk_drew ?_ | refine blk_alloc ?_ _)); exact BK1381.out) hb)
                        have n6_ := Aside0.mk (below_step (by repeat (first | (with_reducible first | exact HB.out | apply below_alloc | apply pw_below_drewN | apply below_drew1 | refine below_set ?_ GE1363.out | refine below_set ?_ GE1367.out | refine below_set ?_ GE1371.out | refine below_set ?_ GE1375.out | refine below_set ?_ GE1379.out | refine below_set ?_ GE1381.out) | exact HB.out)) hb)
                        clear BK1363
                        clear BK1367
                        clear BK1371
                        clear BK1375
                        clear BK1379
                        clear BK1381
                        clear HB
                        have BK1363 := n0_
                        have BK1367 := n1_
                        have BK1371 := n2_
                        have BK1375 := n3_
                        have BK1379 := n4_
                        have BK1381 := n5_
                        have HB := n6_
                        clear n0_ n1_ n2_ n3_ n4_ n5_ n6_
                        (try clear hb)
                        (try clear hb2)
                        (try clear hk)
                        (try clear hi)
                        refine hK.out _ _ ⟨c7_of BK1379.out rfl, c7_of BK1381.out rfl, (blk_cell BK1363.out 0).trans rfl, (blk_cell BK1363.out 1).trans rfl⟩ (fun hHeld => ?_)
                        clear hK K
                        refine norm_ (a' := ?_) ?_ ?_
                        rotate_left
                        · show Act.put _ (some 110) _ = _
                          simp only [Act.put, List.setIfInBounds_toArray, List.set_cons_zero, List.set_cons_succ, i64_w, i32_w]
                          rfl
                        refine pure_ (i := 33) (N := some 116) (v := ?_) (a' := ?_) #[true, true, true, true, true, true, true, true, true, true, true, true, true, true, true, true, true, true, true, true, true, true, true, true, true, true, true, true, true, true, true, true, true, true, false] rfl rfl (any_of HT_.out (by kernel_rfl)) (fun _ _ _ h => h) (Or.inl ⟨by rfl, ?_⟩) ?_ ?_
                        rotate_left
                        · intro w'
                          go_simp
                          with_reducible rfl
                        rotate_left
                        · simp only [Act.put, List.setIfInBounds_toArray, List.set_cons_zero, List.set_cons_succ, i64_w, i32_w]
                          rfl
                        refine pure_ (i := 34) (N := some 117) (v := ?_) (a' := ?_) #[true, true, true, true, true, true, true, true, true, true, true, true, true, true, true, true, true, true, true, true, true, true, true, true, true, true, true, true, true, true, true, true, true, true, true] rfl rfl (any_of HT_.out (by kernel_rfl)) (fun _ _ _ h => h) (Or.inl ⟨by rfl, ?_⟩) ?_ ?_
                        rotate_left
                        · intro w'
                          go_simp
                          with_reducible rfl
                        rotate_left
                        · simp only [Act.put, List.setIfInBounds_toArray, List.set_cons_zero, List.set_cons_succ, i64_w, i32_w]
                          rfl
                        refine done_ (done_of HT_.out (by kernel_rfl)) ?_
                        try go_wp2
                        go_meet
                        case rel => exact ⟨_, ((t1388 != (a2_0 == a2_1))), (by first | rfl | (simp; done) | (simp [*]; done)), H', ⟨by have := HJ3.out; have := HK2.out; first | omega | exact Nat.le_refl _⟩, ⟨by (with_reducible repeat (first | refine blk_drewN ?_ _ | refine blk_drew ?_ | refine blk_alloc ?_ _)); exact BK1363.out⟩, ⟨by (with_reducible repeat (first | refine blk_drewN ?_ _ | refine blk_drew ?_ | refine blk_alloc ?_ _)); exact BK1367.out⟩, ⟨by (with_reducible repeat (first | refine blk_drewN ?_ _ | refine blk_drew ?_ | refine blk_alloc ?_ _)); exact BK1371.out⟩, ⟨by (with_reducible repeat (first | refine blk_drewN ?_ _ | refine blk_drew ?_ | refine blk_alloc ?_ _)); exact BK1375.out⟩, ⟨by (with_reducible repeat (first | refine blk_drewN ?_ _ | refine blk_drew ?_ | refine blk_alloc ?_ _)); exact BK1379.out⟩, ⟨by (with_reducible repeat (first | refine blk_drewN ?_ _ | refine blk_drew ?_ | refine blk_alloc ?_ _)); exact BK1381.out⟩, ⟨by repeat (first | (with_reducible first | exact HB.out | apply below_alloc | apply pw_below_drewN | apply below_drew1 | refine below_set ?_ GE1363.out | refine below_set ?_ GE1367.out | refine below_set ?_ GE1371.out | refine below_set ?_ GE1375.out | refine below_set ?_ GE1379.out | refine below_set ?_ GE1381.out) | exact HB.out)⟩⟩
                      · replace c80 := Bool.eq_false_iff.mpr c80
                        subst c80
                        have H1 : (chicorylaw06_ScalarLong.j2 k2 t1366 t1370 t1374 true t1365 t1369 x1376000_2) = some true := by rw [if_neg (show ¬ (false = true) by decide)] at H; exact H
                        exact absurd H1 (by intro h_; revert h_; cases k2 <;> simp [chicorylaw06_ScalarLong.j2])
                    · replace c76 := Bool.eq_false_iff.mpr c76
                      subst c76
                      have H1 : (chicorylaw06_ScalarLong.j2 k2 t1366 t1370 t1374 true t1365 t1369 x1376000_2) = some true := by rw [if_neg (show ¬ (false = true) by decide)] at H; exact H
                      exact absurd H1 (by intro h_; revert h_; cases k2 <;> simp [chicorylaw06_ScalarLong.j2])
                  case rest =>
                    clear HC52
                    try clear p2
                    try clear c6
                    try clear p6
                    try clear c7
                    try clear c64
                    try clear p64
                    try clear c69
                    try clear c72
                    try clear c76
                    obtain ⟨kq, x117_51, rfl, HA, HJ51, BK1363, BK1367, BK1371, BK1375, BK1379, BK1381, HB⟩ := hcut
                    cases kq with
                    | zero => exact absurd HA.out (by simp [chicorylaw06_ScalarLong.j2])
                    | succ kj51 =>
                      have H := HA.out
                      clear HA
                      simp only [chicorylaw06_ScalarLong.j2] at H
                      by_cases c104 : x117_51 = true
                      · subst c104
                        have H1 : (some false) = some true := by rw [if_pos rfl] at H; exact H
                        clear H
                        have H := H1
                        clear H1
                        exact absurd H (by simp)
                      · replace c104 := Bool.eq_false_iff.mpr c104
                        subst c104
                        have H1 : (if t1366 = 0 then (if t1370 = 0 then (if t1374 = 0 then ((scalar_Add.f kj51 t1369 x1376000_2).bind fun t1389 => ((scalar_Equal.f kj51 t1365 t1389).bind fun t1390 => (if t1390 = true then ((chicorylaw06_awake.f kj51).bind fun t1391 => (some t1391)) else (some false)))) else (some false)) else (some false)) else (some false)) = some true := by rw [if_neg (show ¬ (false = true) by decide)] at H; exact H
                        clear H
                        have H := H1
                        clear H1
                        by_cases c105 : t1366 = 0
                        · rw [if_pos c105] at H
                          have c105b0 : (t1366 == 0) = true := beq_iff_eq.mpr c105
                          have c105b1 : (t1366 != 0) = false := bne_eq_false_iff_eq.mpr c105
                          clear c105
                          by_cases c106 : t1370 = 0
                          · rw [if_pos c106] at H
                            have c106b0 : (t1370 == 0) = true := beq_iff_eq.mpr c106
                            have c106b1 : (t1370 != 0) = false := bne_eq_false_iff_eq.mpr c106
                            clear c106
                            by_cases c107 : t1374 = 0
                            · rw [if_pos c107] at H
                              have c107b0 : (t1374 == 0) = true := beq_iff_eq.mpr c107
                              have c107b1 : (t1374 != 0) = false := bne_eq_false_iff_eq.mpr c107
                              clear c107
                              replace H := Option.bind_eq_some_iff.mp H
                              obtain ⟨t1389, A1080, H⟩ := H
                              replace H : ((scalar_Equal.f kj51 t1365 t1389).bind fun t1390 => (if t1390 = true then ((chicorylaw06_awake.f kj51).bind fun t1391 => (some t1391)) else (some false))) = some true := H
                              have A108 := Aside0.mk A1080
                              clear A1080
                              replace H := Option.bind_eq_some_iff.mp H
                              obtain ⟨t1390, A1090, H⟩ := H
                              replace H : (if t1390 = true then ((chicorylaw06_awake.f kj51).bind fun t1391 => (some t1391)) else (some false)) = some true := H
                              have A109 := Aside0.mk A1090
                              clear A1090
                              by_cases c110 : t1390 = true
                              · subst c110
                                have H1 : ((chicorylaw06_awake.f kj51).bind fun t1391 => (some t1391)) = some true := by rw [if_pos rfl] at H; exact H
                                clear H
                                have H := H1
                                clear H1
                                replace H := Option.bind_eq_some_iff.mp H
                                obtain ⟨t1391, A1110, H⟩ := H
                                replace H : (some t1391) = some true := H
                                have A111 := Aside0.mk A1110
                                clear A1110
                                obtain rfl := Option.some.inj H
                                try go_wp2
                                have n0_ := Aside0.mk (blk_drew BK1363.out)
                                have n1_ := Aside0.mk (blk_drew BK1367.out)
                                have n2_ := Aside0.mk (blk_drew BK1371.out)
                                have n3_ := Aside0.mk (blk_drew BK1375.out)
                                have n4_ := Aside0.mk (blk_drew BK1379.out)
                                have n5_ := Aside0.mk (blk_drew BK1381.out)
                                have n6_ := Aside0.mk (below_drew1 HB.out)
                                clear BK1363
                                clear BK1367
                                clear BK1371
                                clear BK1375
                                clear BK1379
                                clear BK1381
                                clear HB
                                have BK1363 := n0_
                                have BK1367 := n1_
                                have BK1371 := n2_
                                have BK1375 := n3_
                                have BK1379 := n4_
                                have BK1381 := n5_
                                have HB := n6_
                                clear n0_ n1_ n2_ n3_ n4_ n5_ n6_
                                refine start_ (n := 21) (S := fun w' => c7 w' gb1367 t1365 ∧ c7 w' gb1371 t1369 ∧ c7 w' gb1375 x1376000_2) (ds := []) #[false, false, false, false, false, false, false, false, false, false, false, false, false, false, false, false, false, false, false, false, false] (by kernel_rfl) rfl rfl ⟨c7_of BK1367.out rfl, c7_of BK1371.out rfl, c7_of BK1375.out rfl⟩ (fun hHeld => ?_); refine with_tabW chicorylaw06_ScalarLong.tab14 chicorylaw06_ScalarLong.bits14 (fun HT_ HW_ => ?_)
                                generalize wc.drew = w112 at BK1363 BK1367 BK1371 BK1375 BK1379 BK1381 HB hHeld ⊢
                                refine pure_ (i := 0) (N := some 118) (v := ?_) (a' := ?_) #[true, false, false, false, false, false, false, false, false, false, false, false, false, false, false, false, false, false, false, false, false] rfl rfl (any_of HT_.out (by kernel_rfl)) (fun _ _ _ h => h) (Or.inl ⟨by rfl, ?_⟩) ?_ ?_
                                rotate_left
                                · intro w'
                                  go_simp
                                  with_reducible rfl
                                rotate_left
                                · simp only [Act.put, List.setIfInBounds_toArray, List.set_cons_zero, List.set_cons_succ, i64_w, i32_w]
                                  rfl
                                refine pure_ (i := 1) (N := some 119) (v := ?_) (a' := ?_) #[true, true, false, false, false, false, false, false, false, false, false, false, false, false, false, false, false, false, false, false, false] rfl rfl (any_of HT_.out (by kernel_rfl)) (fun _ _ _ h => h) (Or.inl ⟨by rfl, ?_⟩) ?_ ?_
                                rotate_left
                                · intro w'
                                  go_simp
                                  with_reducible rfl
                                rotate_left
                                · simp only [Act.put, List.setIfInBounds_toArray, List.set_cons_zero, List.set_cons_succ, i64_w, i32_w]
                                  rfl
                                refine pure_ (i := 2) (N := some 120) (v := ?_) (a' := ?_) #[true, true, true, false, false, false, false, false, false, false, false, false, false, false, false, false, false, false, false, false, false] rfl rfl (any_of HT_.out (by kernel_rfl)) (fun _ _ _ h => h) (Or.inl ⟨by rfl, ?_⟩) ?_ ?_
                                rotate_left
                                · intro w'
                                  go_simp
                                  with_reducible rfl
                                rotate_left
                                · simp only [Act.put, List.setIfInBounds_toArray, List.set_cons_zero, List.set_cons_succ, i64_w, i32_w]
                                  rfl
                                refine pure_ (i := 3) (N := some 121) (v := ?_) (a' := ?_) #[true, true, true, true, false, false, false, false, false, false, false, false, false, false, false, false, false, false, false, false, false] rfl rfl (any_of HT_.out (by kernel_rfl)) (fun _ _ _ h => h) (Or.inl ⟨by rfl, ?_⟩) ?_ ?_
                                rotate_left
                                · intro w'
                                  go_simp
                                  with_reducible rfl
                                rotate_left
                                · simp only [Act.put, List.setIfInBounds_toArray, List.set_cons_zero, List.set_cons_succ, i64_w, i32_w]
                                  rfl
                                refine pure_ (i := 4) (N := some 122) (v := ?_) (a' := ?_) #[true, true, true, true, true, false, false, false, false, false, false, false, false, false, false, false, false, false, false, false, false] rfl rfl (any_of HT_.out (by kernel_rfl)) (fun _ _ _ h => h) (Or.inl ⟨by rfl, ?_⟩) ?_ ?_
                                rotate_left
                                · intro w'
                                  go_simp
                                  with_reducible rfl
                                rotate_left
                                · simp only [Act.put, List.setIfInBounds_toArray, List.set_cons_zero, List.set_cons_succ, i64_w, i32_w]
                                  rfl
                                refine pure_ (i := 5) (N := some 123) (v := ?_) (a' := ?_) #[true, true, true, true, true, true, false, false, false, false, false, false, false, false, false, false, false, false, false, false, false] rfl rfl (any_of HT_.out (by kernel_rfl)) (fun _ _ _ h => h) (Or.inl ⟨by rfl, ?_⟩) ?_ ?_
                                rotate_left
                                · intro w'
                                  go_simp
                                  with_reducible rfl
                                rotate_left
                                · simp only [Act.put, List.setIfInBounds_toArray, List.set_cons_zero, List.set_cons_succ, i64_w, i32_w]
                                  rfl
                                refine pure_ (i := 6) (N := some 124) (v := ?_) (a' := ?_) #[true, true, true, true, true, true, true, false, false, false, false, false, false, false, false, false, false, false, false, false, false] rfl rfl (any_of HT_.out (by kernel_rfl)) (fun _ _ _ h => h) (Or.inl ⟨by rfl, ?_⟩) ?_ ?_
                                rotate_left
                                · intro w'
                                  go_simp
                                  with_reducible rfl
                                rotate_left
                                · simp only [Act.put, List.setIfInBounds_toArray, List.set_cons_zero, List.set_cons_succ, i64_w, i32_w]
                                  rfl
                                refine pure_ (i := 7) (N := some 125) (v := ?_) (a' := ?_) #[true, true, true, true, true, true, true, true, false, false, false, false, false, false, false, false, false, false, false, false, false] rfl rfl (any_of HT_.out (by kernel_rfl)) (fun _ _ _ h => h) (Or.inl ⟨by rfl, ?_⟩) ?_ ?_
                                rotate_left
                                · intro w'
                                  go_simp
                                  with_reducible rfl
                                rotate_left
                                · simp only [Act.put, List.setIfInBounds_toArray, List.set_cons_zero, List.set_cons_succ, i64_w, i32_w]
                                  rfl
                                refine pure_ (i := 8) (N := some 126) (v := ?_) (a' := ?_) #[true, true, true, true, true, true, true, true, true, false, false, false, false, false, false, false, false, false, false, false, false] rfl rfl (any_of HT_.out (by kernel_rfl)) (fun _ _ _ h => h) (Or.inl ⟨by rfl, ?_⟩) ?_ ?_
                                rotate_left
                                · intro w'
                                  go_simp
                                  with_reducible rfl
                                rotate_left
                                · simp only [Act.put, List.setIfInBounds_toArray, List.set_cons_zero, List.set_cons_succ, i64_w, i32_w]
                                  rfl
                                refine pure_ (i := 9) (N := some 127) (v := ?_) (a' := ?_) #[true, true, true, true, true, true, true, true, true, true, false, false, false, false, false, false, false, false, false, false, false] rfl rfl (any_of HT_.out (by kernel_rfl)) (fun _ _ _ h => h) (Or.inl ⟨by rfl, ?_⟩) ?_ ?_
                                rotate_left
                                · intro w'
                                  go_simp
                                  with_reducible rfl
                                rotate_left
                                · simp only [Act.put, List.setIfInBounds_toArray, List.set_cons_zero, List.set_cons_succ, i64_w, i32_w]
                                  rfl
                                refine pure_ (i := 10) (N := some 128) (v := ?_) (a' := ?_) #[true, true, true, true, true, true, true, true, true, true, true, false, false, false, false, false, false, false, false, false, false] rfl rfl (any_of HT_.out (by kernel_rfl)) (fun _ _ _ h => h) (Or.inl ⟨by rfl, ?_⟩) ?_ ?_
                                rotate_left
                                · intro w'
                                  go_simp
                                  with_reducible rfl
                                rotate_left
                                · simp only [Act.put, List.setIfInBounds_toArray, List.set_cons_zero, List.set_cons_succ, i64_w, i32_w]
                                  rfl
                                refine take_ (i := 11) (N := some 129) (v := ?_) (a' := ?_) #[true, true, true, true, true, true, true, true, true, true, true, true, false, false, false, false, false, false, false, false, false] rfl rfl (take_ofW HT_.out HW_.out (by kernel_rfl)) (fun _ _ _ h => h) (Or.inl ⟨by rfl, ?_⟩) hHeld ?_ ?_
                                rotate_left
                                · rintro w' ⟨⟨s0, s0_c1, s0_c2, s0_c3, s0_c4, s0_c5, s0_c6⟩, ⟨s1, s1_c1, s1_c2, s1_c3, s1_c4, s1_c5, s1_c6⟩, ⟨s2, s2_c1, s2_c2, s2_c3, s2_c4, s2_c5, s2_c6⟩⟩
                                  go_simp
                                  with_reducible rfl
                                rotate_left
                                · simp only [Act.put, List.setIfInBounds_toArray, List.set_cons_zero, List.set_cons_succ, i64_w, i32_w]
                                  rfl
                                refine take_ (i := 12) (N := some 130) (v := ?_) (a' := ?_) #[true, true, true, true, true, true, true, true, true, true, true, true, true, false, false, false, false, false, false, false, false] rfl rfl (take_ofW HT_.out HW_.out (by kernel_rfl)) (fun _ _ _ h => h) (Or.inl ⟨by rfl, ?_⟩) hHeld ?_ ?_
                                rotate_left
                                · rintro w' ⟨⟨s0, s0_c1, s0_c2, s0_c3, s0_c4, s0_c5, s0_c6⟩, ⟨s1, s1_c1, s1_c2, s1_c3, s1_c4, s1_c5, s1_c6⟩, ⟨s2, s2_c1, s2_c2, s2_c3, s2_c4, s2_c5, s2_c6⟩⟩
                                  go_simp
                                  with_reducible rfl
                                rotate_left
                                · simp only [Act.put, List.setIfInBounds_toArray, List.set_cons_zero, List.set_cons_succ, i64_w, i32_w]
                                  rfl
                                refine take_ (i := 13) (N := some 131) (v := ?_) (a' := ?_) #[true, true, true, true, true, true, true, true, true, true, true, true, true, true, false, false, false, false, false, false, false] rfl rfl (take_ofW HT_.out HW_.out (by kernel_rfl)) (fun _ _ _ h => h) (Or.inl ⟨by rfl, ?_⟩) hHeld ?_ ?_
                                rotate_left
                                · rintro w' ⟨⟨s0, s0_c1, s0_c2, s0_c3, s0_c4, s0_c5, s0_c6⟩, ⟨s1, s1_c1, s1_c2, s1_c3, s1_c4, s1_c5, s1_c6⟩, ⟨s2, s2_c1, s2_c2, s2_c3, s2_c4, s2_c5, s2_c6⟩⟩
                                  go_simp
                                  with_reducible rfl
                                rotate_left
                                · simp only [Act.put, List.setIfInBounds_toArray, List.set_cons_zero, List.set_cons_succ, i64_w, i32_w]
                                  rfl
                                refine one_ (i := 14) (N := some 132) #[true, true, true, true, true, true, true, true, true, true, true, true, true, true, true, false, false, false, false, false, false] rfl rfl (one_of HT_.out (by kernel_rfl)) (by decide) (fun K hK => ?_)
                                refine goes_ Try.func64 (by kernel_rfl) rfl #[.agg (sv t1369), .agg (sv x1376000_2)] (by rfl) rfl rfl (by (try simp only [List.map_toArray, List.map_cons, List.map_nil]); first | done | rfl | (simp only [List.length_drop, List.length_take]; rfl)) ?_
                                with_reducible refine (scalar_Add.calls kj51 t1369 x1376000_2 t1389 _ A108.out).mono ?_
                                rintro e w113 ⟨rfl, hb⟩
                                refine ⟨_, rfl, ?_⟩
                                have n0_ := Aside0.mk (blk_below (g := gb1363) (o := .cells #[.int .i64 a2_0, .int .i64 a2_1] 63 (0, 0)) (by (with_reducible repeat (first | refine blk_drewN ?_ _ | refine blk_drew ?_ | refine blk_alloc ?_ _)); exact BK1363.out) hb)
                                have n1_ := Aside0.mk (blk_below (g := gb1367) (o := .cells (sv t1365) 73 (0, 0)) (by (with_reducible repeat (first | refine blk_drewN ?_ _ | refine blk_drew ?_ | refine blk_alloc ?_ _)); exact BK1367.out) hb)
                                have n2_ := Aside0.mk (blk_below (g := gb1371) (o := .cells (sv t1369) 73 (0, 0)) (by (with_reducible repeat (first | refine blk_drewN ?_ _ | refine blk_drew ?_ | refine blk_alloc ?_ _)); exact BK1371.out) hb)
                                have n3_ := Aside0.mk (blk_below (g := gb1375) (o := .cells (sv x1376000_2) 73 (0, 0)) (by (with_reducible repeat (first | refine blk_drewN ?_ _ | refine blk_drew ?_ | refine blk_alloc ?_ _)); exact BK1375.out) hb)
                                have n4_ := Aside0.mk (blk_below (g := gb1379) (o := .cells (sv t1378) 73 (0, 0)) (by (with_reducible repeat (first | refine blk_drewN ?_ _ | refine blk_drew ?_ | refine blk_alloc ?_ _)); exact BK1379.out) hb)
                                have n5_ := Aside0.mk (blk_below (g := gb1381) (o := .cells (sv t1380) 73 (0, 0)) (by (with_reducible repeat (first | refine blk_drewN ?_ _ | refine blk_drew ?_ | refine blk_alloc ?_ _)); exact BK1381.out) hb)
                                have n6_ := Aside0.mk (below_step (by repeat (first | (with_reducible first | exact HB.out | apply below_alloc | apply pw_below_drewN | apply below_drew1 | refine below_set ?_ GE1363.out | refine below_set ?_ GE1367.out | refine below_set ?_ GE1371.out | refine below_set ?_ GE1375.out | refine below_set ?_ GE1379.out | refine below_set ?_ GE1381.out) | exact HB.out)) hb)
                                clear BK1363
                                clear BK1367
                                clear BK1371
                                clear BK1375
                                clear BK1379
                                clear BK1381
                                clear HB
                                have BK1363 := n0_
                                have BK1367 := n1_
                                have BK1371 := n2_
                                have BK1375 := n3_
                                have BK1379 := n4_
                                have BK1381 := n5_
                                have HB := n6_
                                clear n0_ n1_ n2_ n3_ n4_ n5_ n6_
                                (try clear hb)
                                (try clear hb2)
                                (try clear hk)
                                (try clear hi)
                                refine hK.out _ _ ⟨c7_of BK1367.out rfl, c7_of BK1371.out rfl, c7_of BK1375.out rfl⟩ (fun hHeld => ?_)
                                clear hK K
                                refine norm_ (a' := ?_) ?_ ?_
                                rotate_left
                                · show Act.put _ (some 132) _ = _
                                  simp only [Act.put, List.setIfInBounds_toArray, List.set_cons_zero, List.set_cons_succ, i64_w, i32_w]
                                  rfl
                                refine one_ (i := 15) (N := some 133) #[true, true, true, true, true, true, true, true, true, true, true, true, true, true, true, true, false, false, false, false, false] rfl rfl (one_of HT_.out (by kernel_rfl)) (by decide) (fun K hK => ?_)
                                refine goes_ Try.func76 (by kernel_rfl) rfl #[.agg (sv t1365), .agg (sv t1389)] (by rfl) rfl rfl (by (try simp only [List.map_toArray, List.map_cons, List.map_nil]); first | done | rfl | (simp only [List.length_drop, List.length_take]; rfl)) ?_
                                with_reducible refine (scalar_Equal.calls kj51 t1365 t1389 true _ A109.out).mono ?_
                                rintro e w114 ⟨rfl, hb⟩
                                refine ⟨_, rfl, ?_⟩
                                have n0_ := Aside0.mk (blk_below (g := gb1363) (o := .cells #[.int .i64 a2_0, .int .i64 a2_1] 63 (0, 0)) (by (with_reducible repeat (first | refine blk_drewN ?_ _ | refine blk_drew ?_ | refine blk_alloc ?_ _)); exact BK1363.out) hb)
                                have n1_ := Aside0.mk (blk_below (g := gb1367) (o := .cells (sv t1365) 73 (0, 0)) (by (with_reducible repeat (first | refine blk_drewN ?_ _ | refine blk_drew ?_ | refine blk_alloc ?_ _)); exact BK1367.out) hb)
                                have n2_ := Aside0.mk (blk_below (g := gb1371) (o := .cells (sv t1369) 73 (0, 0)) (by (with_reducible repeat (first | refine blk_drewN ?_ _ | refine blk_drew ?_ | refine blk_alloc ?_ _)); exact BK1371.out) hb)
                                have n3_ := Aside0.mk (blk_below (g := gb1375) (o := .cells (sv x1376000_2) 73 (0, 0)) (by (with_reducible repeat (first | refine blk_drewN ?_ _ | refine blk_drew ?_ | refine blk_alloc ?_ _)); exact BK1375.out) hb)
                                have n4_ := Aside0.mk (blk_below (g := gb1379) (o := .cells (sv t1378) 73 (0, 0)) (by (with_reducible repeat (first | refine blk_drewN ?_ _ | refine blk_drew ?_ | refine blk_alloc ?_ _)); exact BK1379.out) hb)
                                have n5_ := Aside0.mk (blk_below (g := gb1381) (o := .cells (sv t1380) 73 (0, 0)) (by (with_reducible repeat (first | refine blk_drewN ?_ _ | refine blk_drew ?_ | refine blk_alloc ?_ _)); exact BK1381.out) hb)
                                have n6_ := Aside0.mk (below_step (by repeat (first | (with_reducible first | exact HB.out | apply below_alloc | apply pw_below_drewN | apply below_drew1 | refine below_set ?_ GE1363.out | refine below_set ?_ GE1367.out | refine below_set ?_ GE1371.out | refine below_set ?_ GE1375.out | refine below_set ?_ GE1379.out | refine below_set ?_ GE1381.out) | exact HB.out)) hb)
                                clear BK1363
                                clear BK1367
                                clear BK1371
                                clear BK1375
                                clear BK1379
                                clear BK1381
                                clear HB
                                have BK1363 := n0_
                                have BK1367 := n1_
                                have BK1371 := n2_
                                have BK1375 := n3_
                                have BK1379 := n4_
                                have BK1381 := n5_
                                have HB := n6_
                                clear n0_ n1_ n2_ n3_ n4_ n5_ n6_
                                (try clear hb)
                                (try clear hb2)
                                (try clear hk)
                                (try clear hi)
                                refine hK.out _ _ ⟨c7_of BK1367.out rfl, c7_of BK1371.out rfl, c7_of BK1375.out rfl⟩ (fun hHeld => ?_)
                                clear hK K
                                refine norm_ (a' := ?_) ?_ ?_
                                rotate_left
                                · show Act.put _ (some 133) _ = _
                                  simp only [Act.put, List.setIfInBounds_toArray, List.set_cons_zero, List.set_cons_succ, i64_w, i32_w]
                                  rfl
                                refine pure_ (i := 16) (N := some 134) (v := ?_) (a' := ?_) #[true, true, true, true, true, true, true, true, true, true, true, true, true, true, true, true, true, false, false, false, false] rfl rfl (any_of HT_.out (by kernel_rfl)) (fun _ _ _ h => h) (Or.inl ⟨by rfl, ?_⟩) ?_ ?_
                                rotate_left
                                · intro w'
                                  go_simp
                                  with_reducible rfl
                                rotate_left
                                · simp only [Act.put, List.setIfInBounds_toArray, List.set_cons_zero, List.set_cons_succ, i64_w, i32_w]
                                  rfl
                                refine pure_ (i := 17) (N := some 135) (v := ?_) (a' := ?_) #[true, true, true, true, true, true, true, true, true, true, true, true, true, true, true, true, true, true, false, false, false] rfl rfl (any_of HT_.out (by kernel_rfl)) (fun _ _ _ h => h) (Or.inl ⟨by rfl, ?_⟩) ?_ ?_
                                rotate_left
                                · intro w'
                                  go_simp
                                  with_reducible rfl
                                rotate_left
                                · simp only [Act.put, List.setIfInBounds_toArray, List.set_cons_zero, List.set_cons_succ, i64_w, i32_w]
                                  rfl
                                refine one_ (i := 18) (N := some 136) #[true, true, true, true, true, true, true, true, true, true, true, true, true, true, true, true, true, true, true, false, false] rfl rfl (one_of HT_.out (by kernel_rfl)) (by decide) (fun K hK => ?_)
                                refine goes_ Try.func71 (by kernel_rfl) rfl #[] (by rfl) rfl rfl (by (try simp only [List.map_toArray, List.map_cons, List.map_nil]); first | done | rfl | (simp only [List.length_drop, List.length_take]; rfl)) ?_
                                with_reducible refine (chicorylaw06_awake.calls kj51  true _ A111.out).mono ?_
                                rintro e w115 ⟨rfl, hb⟩
                                refine ⟨_, rfl, ?_⟩
                                have n0_ := Aside0.mk (blk_below (g := gb1363) (o := .cells #[.int .i64 a2_0, .int .i64 a2_1] 63 (0, 0)) (by (with_reducible repeat (first | refine blk_drewN ?_ _ | refine blk_drew ?_ | refine blk_alloc ?_ _)); exact BK1363.out) hb)
                                have n1_ := Aside0.mk (blk_below (g := gb1367) (o := .cells (sv t1365) 73 (0, 0)) (by (with_reducible repeat (first | refine blk_drewN ?_ _ | refine blk_drew ?_ | refine blk_alloc ?_ _)); exact BK1367.out) hb)
                                have n2_ := Aside0.mk (blk_below (g := gb1371) (o := .cells (sv t1369) 73 (0, 0)) (by (with_reducible repeat (first | refine blk_drewN ?_ _ | refine blk_drew ?_ | refine blk_alloc ?_ _)); exact BK1371.out) hb)
                                have n3_ := Aside0.mk (blk_below (g := gb1375) (o := .cells (sv x1376000_2) 73 (0, 0)) (by (with_reducible repeat (first | refine blk_drewN ?_ _ | refine blk_drew ?_ | refine blk_alloc ?_ _)); exact BK1375.out) hb)
                                have n4_ := Aside0.mk (blk_below (g := gb1379) (o := .cells (sv t1378) 73 (0, 0)) (by (with_reducible repeat (first | refine blk_drewN ?_ _ | refine blk_drew ?_ | refine blk_alloc ?_ _)); exact BK1379.out) hb)
                                have n5_ := Aside0.mk (blk_below (g := gb1381) (o := .cells (sv t1380) 73 (0, 0)) (by (with_reducible repeat (first | refine blk_drewN ?_ _ | refine blk_drew ?_ | refine blk_alloc ?_ _)); exact BK1381.out) hb)
                                have n6_ := Aside0.mk (below_step (by repeat (first | (with_reducible first | exact HB.out | apply below_alloc | apply pw_below_drewN | apply below_drew1 | refine below_set ?_ GE1363.out | refine below_set ?_ GE1367.out | refine below_set ?_ GE1371.out | refine below_set ?_ GE1375.out | refine below_set ?_ GE1379.out | refine below_set ?_ GE1381.out) | exact HB.out)) hb)
                                clear BK1363
                                clear BK1367
                                clear BK1371
                                clear BK1375
                                clear BK1379
                                clear BK1381
                                clear HB
                                have BK1363 := n0_
                                have BK1367 := n1_
                                have BK1371 := n2_
                                have BK1375 := n3_
                                have BK1379 := n4_
                                have BK1381 := n5_
                                have HB := n6_
                                clear n0_ n1_ n2_ n3_ n4_ n5_ n6_
                                (try clear hb)
                                (try clear hb2)
                                (try clear hk)
                                (try clear hi)
                                refine hK.out _ _ ⟨c7_of BK1367.out rfl, c7_of BK1371.out rfl, c7_of BK1375.out rfl⟩ (fun hHeld => ?_)
                                clear hK K
                                refine norm_ (a' := ?_) ?_ ?_
                                rotate_left
                                · show Act.put _ (some 136) _ = _
                                  simp only [Act.put, List.setIfInBounds_toArray, List.set_cons_zero, List.set_cons_succ, i64_w, i32_w]
                                  rfl
                                refine pure_ (i := 19) (N := some 137) (v := ?_) (a' := ?_) #[true, true, true, true, true, true, true, true, true, true, true, true, true, true, true, true, true, true, true, true, false] rfl rfl (any_of HT_.out (by kernel_rfl)) (fun _ _ _ h => h) (Or.inl ⟨by rfl, ?_⟩) ?_ ?_
                                rotate_left
                                · intro w'
                                  go_simp
                                  with_reducible rfl
                                rotate_left
                                · simp only [Act.put, List.setIfInBounds_toArray, List.set_cons_zero, List.set_cons_succ, i64_w, i32_w]
                                  rfl
                                refine pure_ (i := 20) (N := some 6) (v := ?_) (a' := ?_) #[true, true, true, true, true, true, true, true, true, true, true, true, true, true, true, true, true, true, true, true, true] rfl rfl (any_of HT_.out (by kernel_rfl)) (fun _ _ _ h => h) (Or.inl ⟨by rfl, ?_⟩) ?_ ?_
                                rotate_left
                                · intro w'
                                  go_simp
                                  with_reducible rfl
                                rotate_left
                                · simp only [Act.put, List.setIfInBounds_toArray, List.set_cons_zero, List.set_cons_succ, i64_w, i32_w]
                                  rfl
                                refine done_ (done_of HT_.out (by kernel_rfl)) ?_
                                try go_wp2
                                go_ret
                                exact ⟨by first | rfl | (simp [errW_none, errW_some] <;> rfl) | (simp [*, errW_none, errW_some] <;> rfl), by repeat (first | (with_reducible first | exact HB.out | apply below_alloc | apply pw_below_drewN | apply below_drew1 | refine below_set ?_ GE1363.out | refine below_set ?_ GE1367.out | refine below_set ?_ GE1371.out | refine below_set ?_ GE1375.out | refine below_set ?_ GE1379.out | refine below_set ?_ GE1381.out) | exact HB.out)⟩
                              · replace c110 := Bool.eq_false_iff.mpr c110
                                subst c110
                                have H1 : (some false) = some true := by rw [if_neg (show ¬ (false = true) by decide)] at H; exact H
                                clear H
                                have H := H1
                                clear H1
                                exact absurd H (by simp)
                            · rw [if_neg c107] at H
                              have c107b0 : (t1374 == 0) = false := beq_eq_false_iff_ne.mpr c107
                              have c107b1 : (t1374 != 0) = true := bne_iff_ne.mpr c107
                              exact absurd H (by simp)
                          · rw [if_neg c106] at H
                            have c106b0 : (t1370 == 0) = false := beq_eq_false_iff_ne.mpr c106
                            have c106b1 : (t1370 != 0) = true := bne_iff_ne.mpr c106
                            exact absurd H (by simp)
                        · rw [if_neg c105] at H
                          have c105b0 : (t1366 == 0) = false := beq_eq_false_iff_ne.mpr c105
                          have c105b1 : (t1366 != 0) = true := bne_iff_ne.mpr c105
                          exact absurd H (by simp)
          · rw [if_neg c21] at H
            exact absurd H (by simp)
        · rw [if_neg c20] at H
          exact absurd H (by simp)
end Go.Proofs.Ytdaehflffecllaa.N
namespace Go.Proofs.Ytdaehflffecllaa.N
open Go.RowKit Go.Proofs.YtdaehflffecllaaW.PrintWords Go.Proofs.YtdaehflffecllaaW.PrintLast Go.Proofs.YtdaehflffecllaaW.PrintMore
attribute [local go_sem] max2_int min2_int max_two min_two max_three min_three max_four min_four   -- for this text's walks alone
set_option linter.unusedVariables false
set_option linter.unusedSimpArgs false
end Go.Proofs.Ytdaehflffecllaa.N
namespace Go.Proofs.Ytdaehflffecllaa.N
open Go.RowKit Go.Proofs.YtdaehflffecllaaW.PrintWords Go.Proofs.YtdaehflffecllaaW.PrintLast Go.Proofs.YtdaehflffecllaaW.PrintMore
attribute [local go_sem] max2_int min2_int max_two min_two max_three min_three max_four min_four   -- for this text's walks alone
set_option linter.unusedVariables false
set_option linter.unusedSimpArgs false
end Go.Proofs.Ytdaehflffecllaa.N
namespace Go.Proofs.Ytdaehflffecllaa.N
open Go.RowKit Go.Proofs.YtdaehflffecllaaW.PrintWords Go.Proofs.YtdaehflffecllaaW.PrintLast Go.Proofs.YtdaehflffecllaaW.PrintMore
attribute [local go_sem] max2_int min2_int max_two min_two max_three min_three max_four min_four   -- for this text's walks alone
set_option linter.unusedVariables false
set_option linter.unusedSimpArgs false
end Go.Proofs.Ytdaehflffecllaa.N
