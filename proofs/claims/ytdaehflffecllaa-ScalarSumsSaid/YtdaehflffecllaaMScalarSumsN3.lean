/- The law ScalarSums returns true whatever the input: N3 of its proof; no condition. (Joined by wip/shake.py.) -/
import Derived.Test.YtdaehflffecllaaMScalarSumsNx0
import Derived.Test.YtdaehflffecllaaMScalarSumsN1
import Derived.Test.YtdaehflffecllaaMScalarSumsN2
import Derived.Test.YtdaehflffecllaaMScalarSumsN0
namespace Go.Proofs.Ytdaehflffecllaa.N
open Go.RowKit Go.Proofs.YtdaehflffecllaaW.PrintWords Go.Proofs.YtdaehflffecllaaW.PrintLast Go.Proofs.YtdaehflffecllaaW.PrintMore
attribute [local go_sem] max2_int min2_int max_two min_two max_three min_three max_four min_four   -- for this text's walks alone
set_option linter.unusedVariables false
set_option linter.unusedSimpArgs false
def chicoryref06_Add.f (k : Nat) (l0 : List Int) (l1 : List Int) : Option (List Int) := (chicoryref03_Add.f k l0 l1).bind fun t1137 => ((chicoryref06_Reduce.f k t1137).bind fun t1140 => (some t1140))
set_option maxHeartbeats 8000000 in
set_option maxRecDepth 100000 in
theorem chicoryref06_Add.calls (k : Nat) (A0 : Option Addr) (c0 : Nat) (l0 : List Int) (A1 : Option Addr) (c1 : Nat) (l1 : List Int) (r : List Int) (w : World) (hr0 : Kd.C (Kd.int .u8) w A0 l0.length l0) (hc0 : l0.length ≤ c0) (hr1 : Kd.C (Kd.int .u8) w A1 l1.length l1) (hc1 : l1.length ≤ c1) (h : chicoryref06_Add.f k l0 l1 = some r) :
    Calls Try.prog 65 #[.slice A0 l0.length c0, .slice A1 l1.length c1] w fun e w' => ∃ v0_ : Value, e = .returned (v0_) ∧ Kd.V (Kd.int .u8) 5 w' w.heap.size (fun k_ => (w.heap.size ≤ k_)) v0_ r ∧ Below w.heap.size w w' := by
  have HR0 := Aside0.mk hr0
  have HC0 := Aside0.mk hc0
  clear hr0 hc0
  have HR1 := Aside0.mk hr1
  have HC1 := Aside0.mk hc1
  clear hr1 hc1
  have HB := Aside0.mk (Below.refl w.heap.size w)
  have H : ((chicoryref03_Add.f k l0 l1).bind fun t1137 => ((chicoryref06_Reduce.f k t1137).bind fun t1140 => (some t1140))) = some r := h
  clear h
  replace H := Option.bind_eq_some_iff.mp H
  obtain ⟨t1137, A30, H⟩ := H
  replace H : ((chicoryref06_Reduce.f k t1137).bind fun t1140 => (some t1140)) = some r := H
  have A3 := Aside0.mk A30
  clear A30
  replace H := Option.bind_eq_some_iff.mp H
  obtain ⟨t1140, A40, H⟩ := H
  replace H : (some t1140) = some r := H
  have A4 := Aside0.mk A40
  clear A40
  obtain rfl := Option.some.inj H
  go_enter Try.func65, Try.ntmps65
  go_wp2_with (first | ((with_reducible refine gate_callee (f := 49) rfl ?_); refine goesL_ (some 7) rfl rfl Try.func49 (by kernel_rfl) rfl #[.slice A0 l0.length c0, .slice A1 l1.length c1] rfl (by (try simp only [List.map_toArray, List.map_cons, List.map_nil]); first | done | rfl | (simp only [List.length_drop, List.length_take]; rfl)) ?_; (with_reducible refine (chicoryref03_Add.calls k _ _ l0 _ _ l1 t1137 _ ?side1 ?side2 ?side3 ?side4 A3.out).mono ?_); (case side1 => repeat (first | exact HR0.out | (with_reducible refine Kd.C_alloc ?_ _) | (with_reducible refine Kd.C_drewN ?_ _) | (with_reducible refine Kd.C_drew ?_))); (case side2 => exact HC0.out); (case side3 => repeat (first | exact HR1.out | (with_reducible refine Kd.C_alloc ?_ _) | (with_reducible refine Kd.C_drewN ?_ _) | (with_reducible refine Kd.C_drew ?_))); (case side4 => exact HC1.out); rintro e w5 ⟨v1138, rfl, ho0, hb⟩; refine ⟨_, rfl, ?_⟩; have n0_ := Aside0.mk (Kd.V_lower (Kd.V_mono (ok' := fun k_ => (w.heap.size ≤ k_)) ho0 (fun k_ hk_ => (Nat.le_trans (below_size (by repeat (first | (with_reducible first | exact HB.out | apply below_alloc | apply pw_below_drewN | apply below_drew1) | exact HB.out))) hk_))) (below_size (by repeat (first | (with_reducible first | exact HB.out | apply below_alloc | apply pw_below_drewN | apply below_drew1) | exact HB.out)))); have n1_ := Aside0.mk (below_step (by repeat (first | (with_reducible first | exact HB.out | apply below_alloc | apply pw_below_drewN | apply below_drew1) | exact HB.out)) hb); clear HB; have HO1139 := n0_; have HB := n1_; clear n0_ n1_; (try clear hb); (try clear hb2); (try clear hk); (try clear hi); (try clear ho0); obtain ⟨Ao6, co6, eo6⟩ := Kd.V_slice HO1139.out; subst eo6) | ((with_reducible refine gate_callee (f := 86) rfl ?_); refine goesL_ (some 8) rfl rfl Try.func86 (by kernel_rfl) rfl #[.slice Ao6 t1137.length co6] rfl (by (try simp only [List.map_toArray, List.map_cons, List.map_nil]); first | done | rfl | (simp only [List.length_drop, List.length_take]; rfl)) ?_; (with_reducible refine (chicoryref06_Reduce.calls k (fun k_ => (w.heap.size ≤ k_)) _ _ t1137 t1140 _ ?side1 A4.out).mono ?_); (case side1 => exact HO1139.out); rintro e w7 ⟨v1141, rfl, ho0, hb⟩; refine ⟨_, rfl, ?_⟩; have n0_ := Aside0.mk (Kd.V_below (by (with_reducible repeat (first | apply Kd.V_alloc | apply Kd.V_drewN | apply Kd.V_drew)); exact HO1139.out) hb); have n1_ := Aside0.mk (Kd.V_lower (Kd.V_mono (ok' := fun k_ => (w.heap.size ≤ k_)) ho0 (fun k_ hk_ => Or.elim hk_ (fun hs_ => hs_) (fun hn_ => (Nat.le_trans (below_size (by repeat (first | (with_reducible first | exact HB.out | apply below_alloc | apply pw_below_drewN | apply below_drew1) | exact HB.out))) hn_)))) (below_size (by repeat (first | (with_reducible first | exact HB.out | apply below_alloc | apply pw_below_drewN | apply below_drew1) | exact HB.out)))); have n2_ := Aside0.mk (below_step (by repeat (first | (with_reducible first | exact HB.out | apply below_alloc | apply pw_below_drewN | apply below_drew1) | exact HB.out)) hb); clear HO1139; clear HB; have HO1139 := n0_; have HO1142 := n1_; have HB := n2_; clear n0_ n1_ n2_; (try clear hb); (try clear hb2); (try clear hk); (try clear hi); (try clear ho0)))
  go_ret
  exact ⟨_, by first | rfl | (simp [errW_none, errW_some] <;> rfl) | (simp [*, errW_none, errW_some] <;> rfl), by (with_reducible repeat (first | apply Kd.V_alloc | apply Kd.V_drewN | apply Kd.V_drew)); exact HO1142.out, by repeat (first | (with_reducible first | exact HB.out | apply below_alloc | apply pw_below_drewN | apply below_drew1) | exact HB.out)⟩
def scalar_Neg.f (k : Nat) (a0_0 : List Int) : Option (List Int) := (scalar_order.f k).bind fun t1145 => ((scalar_Scalar_nat.f a0_0).bind fun t1148 => ((number_Sub.f k t1145 t1148).bind fun bt1151 => ((scalar_reduce.f k bt1151.1).bind fun t1155 => (some t1155))))
theorem scalar_Neg.mono : ∀ a0 k, LeO (scalar_Neg.f k a0) (scalar_Neg.f (k + 1) a0) := by
  intro a0 k
  unfold scalar_Neg.f
  repeat' first
      | (with_reducible exact number_Sub.mono _ _ _)
      | (with_reducible exact scalar_order.mono _)
      | (with_reducible exact scalar_reduce.mono _ _)
      | (with_reducible exact LeO.refl _)
      | (with_reducible exact LeO.none _)
      | (with_reducible refine LeO.ite ?_ ?_)
      | (with_reducible refine LeO.bind ?_ (fun _ => ?_))
      | exact number_Sub.mono _ _ _
      | exact scalar_order.mono _
      | exact scalar_reduce.mono _ _
      | exact LeO.none _
      | refine LeO.ite ?_ ?_
      | refine LeO.bind ?_ (fun _ => ?_)
def scalar_Neg.T1 : Bool × List (List Nat × List Nat) := (true, [([], []), ([], []), ([1, 0], [1]), ([0, 2, 2], [0, 2]), ([3], [3]), ([4], [4]), ([4], [4]), ([5, 3, 0, 1, 2, 3, 4, 5], [5]), ([6, 7, 0, 1, 2, 3, 4, 5, 6, 7], [6])])
def scalar_Neg.B1 : List Nat := [0, 0, 3, 7, 15, 31, 31, 63, 255]
theorem scalar_Neg.tab1 : rtab .any (opsOf Try.f68 1) = scalar_Neg.T1 := by kernel_rfl
theorem scalar_Neg.bits1 : waitsOk scalar_Neg.T1.2 scalar_Neg.B1 = true := by kernel_rfl
set_option maxHeartbeats 8000000 in
set_option maxRecDepth 100000 in
theorem scalar_Neg.calls (k : Nat) (a0_0 : List Int) (r : List Int) (w : World) (h : scalar_Neg.f k a0_0 = some r) :
    Calls Try.prog 68 #[.agg (sv a0_0)] w fun e w' => e = .returned (.agg (sv r)) ∧ Below w.heap.size w w' := by
  have hu73 := Try.underlying73
  have HB := Aside0.mk (Below.refl w.heap.size w)
  have H : ((scalar_order.f k).bind fun t1145 => ((scalar_Scalar_nat.f a0_0).bind fun t1148 => ((number_Sub.f k t1145 t1148).bind fun bt1151 => ((scalar_reduce.f k bt1151.1).bind fun t1155 => (some t1155))))) = some r := h
  clear h
  replace H := Option.bind_eq_some_iff.mp H
  obtain ⟨t1145, A20, H⟩ := H
  replace H : ((scalar_Scalar_nat.f a0_0).bind fun t1148 => ((number_Sub.f k t1145 t1148).bind fun bt1151 => ((scalar_reduce.f k bt1151.1).bind fun t1155 => (some t1155)))) = some r := H
  have A2 := Aside0.mk A20
  clear A20
  replace H := Option.bind_eq_some_iff.mp H
  obtain ⟨t1148, A30, H⟩ := H
  replace H : ((number_Sub.f k t1145 t1148).bind fun bt1151 => ((scalar_reduce.f k bt1151.1).bind fun t1155 => (some t1155))) = some r := H
  have A3 := Aside0.mk A30
  clear A30
  replace H := Option.bind_eq_some_iff.mp H
  obtain ⟨⟨t1151, t1154⟩, A40, H⟩ := H
  replace H : ((scalar_reduce.f k t1151).bind fun t1155 => (some t1155)) = some r := H
  have A4 := Aside0.mk A40
  clear A40
  replace H := Option.bind_eq_some_iff.mp H
  obtain ⟨t1155, A50, H⟩ := H
  replace H : (some t1155) = some r := H
  have A5 := Aside0.mk A50
  clear A50
  obtain rfl := Option.some.inj H
  go_enter Try.func68, Try.ntmps68
  try go_wp2_with (first | ((with_reducible refine gate_dst (N := 1) rfl ?_); refine box_event ?hg (N := 1) ?hd (cs := (sv a0_0)) (t := 73) ?hr ?_; (case hd => rfl); (case hg => rfl); (case hr => first | (go_simp; done) | (go_simp; rfl)); intro gb1143 hg w6 hbox hb; have n0_ := Aside0.mk (below_step (by repeat (first | (with_reducible first | exact HB.out | apply below_alloc | apply pw_below_drewN | apply below_drew1) | exact HB.out)) hb); have n1_ := Aside0.mk (hbox); have n2_ := Aside0.mk ((by rw [hg]; exact (below_size (by repeat (first | (with_reducible first | exact HB.out | apply below_alloc | apply pw_below_drewN | apply below_drew1) | exact HB.out))) : w.heap.size ≤ gb1143)); have n3_ := Aside0.mk ((by rw [hg]; exact (below_size (by repeat (first | (with_reducible first | exact HB.out | apply below_alloc | apply pw_below_drewN | apply below_drew1) | exact HB.out))) : w.heap.size ≤ gb1143)); clear HB; have HB := n0_; have BK1143 := n1_; have GW1143 := n2_; have GE1143 := n3_; clear n0_ n1_ n2_ n3_; clear hb hbox hg) | ((with_reducible refine gate_dst (N := 2) rfl ?_); refine box_event ?hg (N := 2) ?hd (cs := zv) (t := 73) ?hr ?_; (case hd => rfl); (case hg => rfl); (case hr => first | (go_simp; done) | (go_simp; rfl)); intro gb1144 hg w7 hbox hb; have n0_ := Aside0.mk (blk_below (g := gb1143) (o := .cells (sv a0_0) 73 (0, 0)) (by (with_reducible repeat (first | refine blk_drewN ?_ _ | refine blk_drew ?_ | refine blk_alloc ?_ _)); exact BK1143.out) hb); have n1_ := Aside0.mk (below_step (by repeat (first | (with_reducible first | exact HB.out | apply below_alloc | apply pw_below_drewN | apply below_drew1 | refine below_set ?_ GE1143.out) | exact HB.out)) hb); have n2_ := Aside0.mk (hbox); have n3_ := Aside0.mk ((by rw [hg]; exact (below_size (by repeat (first | (with_reducible first | exact HB.out | apply below_alloc | apply pw_below_drewN | apply below_drew1 | refine below_set ?_ GE1143.out) | exact HB.out))) : w.heap.size ≤ gb1144)); have n4_ := Aside0.mk ((by rw [hg]; exact (below_size (by repeat (first | (with_reducible first | exact HB.out | apply below_alloc | apply pw_below_drewN | apply below_drew1 | refine below_set ?_ GE1143.out) | exact HB.out))) : w.heap.size ≤ gb1144)); have n5_ := Aside0.mk ((by rw [hg]; exact Nat.ne_of_lt (blk_lt (g := gb1143) (o := .cells (sv a0_0) 73 (0, 0)) (by (with_reducible repeat (first | refine blk_drewN ?_ _ | refine blk_drew ?_ | refine blk_alloc ?_ _)); exact BK1143.out)) : gb1143 ≠ gb1144)); have n6_ := Aside0.mk ((by rw [hg]; exact Nat.ne_of_gt (blk_lt (g := gb1143) (o := .cells (sv a0_0) 73 (0, 0)) (by (with_reducible repeat (first | refine blk_drewN ?_ _ | refine blk_drew ?_ | refine blk_alloc ?_ _)); exact BK1143.out)) : gb1144 ≠ gb1143)); clear BK1143; clear HB; have BK1143 := n0_; have HB := n1_; have BK1144 := n2_; have GW1144 := n3_; have GE1144 := n4_; have NB1143_1144 := n5_; have NB1144_1143 := n6_; clear n0_ n1_ n2_ n3_ n4_ n5_ n6_; clear hb hbox hg))
  have n0_ := Aside0.mk (blk_drew BK1143.out)
  have n1_ := Aside0.mk (blk_drew BK1144.out)
  have n2_ := Aside0.mk (below_drew1 HB.out)
  clear BK1143
  clear BK1144
  clear HB
  have BK1143 := n0_
  have BK1144 := n1_
  have HB := n2_
  clear n0_ n1_ n2_
  refine start_ (n := 9) (S := fun w' => c7 w' gb1143 a0_0) (ds := []) #[false, false, false, false, false, false, false, false, false] (by kernel_rfl) rfl rfl (c7_of BK1143.out rfl) (fun hHeld => ?_); refine with_tabW scalar_Neg.tab1 scalar_Neg.bits1 (fun HT_ HW_ => ?_)
  generalize w7.drew = w8 at BK1143 BK1144 HB hHeld ⊢
  refine take_ (i := 1) (N := some 7) (v := ?_) (a' := ?_) #[false, true, false, false, false, false, false, false, false] rfl rfl (take_ofW HT_.out HW_.out (by kernel_rfl)) (fun _ _ _ h => h) (Or.inl ⟨by rfl, ?_⟩) hHeld ?_ ?_
  rotate_left
  · rintro w' ⟨s0, s0_c1, s0_c2, s0_c3, s0_c4, s0_c5, s0_c6⟩
    go_simp
    with_reducible rfl
  rotate_left
  · simp only [Act.put, List.setIfInBounds_toArray, List.set_cons_zero, List.set_cons_succ, i64_w, i32_w]
    rfl
  refine one_ (i := 0) (N := some 6) #[true, true, false, false, false, false, false, false, false] rfl rfl (one_of HT_.out (by kernel_rfl)) (by decide) (fun K hK => ?_)
  refine goes_ Try.func108 (by kernel_rfl) rfl #[] (by rfl) rfl rfl (by (try simp only [List.map_toArray, List.map_cons, List.map_nil]); first | done | rfl | (simp only [List.length_drop, List.length_take]; rfl)) ?_
  with_reducible refine (scalar_order.calls k  t1145 _ A2.out).mono ?_
  rintro e w9 ⟨v1146, rfl, ho0, hb⟩
  refine ⟨_, rfl, ?_⟩
  have n0_ := Aside0.mk (Kd.V_lower (Kd.V_mono (ok' := fun k_ => k_ ≠ gb1143 ∧ k_ ≠ gb1144) ho0 (fun k_ hk_ => ⟨(Kd.freshB (g := gb1143) (o := .cells (sv a0_0) 73 (0, 0)) (by (with_reducible repeat (first | refine blk_drewN ?_ _ | refine blk_drew ?_ | refine blk_alloc ?_ _)); exact BK1143.out) k_ hk_), (Kd.freshB (g := gb1144) (o := .cells zv 73 (0, 0)) (by (with_reducible repeat (first | refine blk_drewN ?_ _ | refine blk_drew ?_ | refine blk_alloc ?_ _)); exact BK1144.out) k_ hk_)⟩)) (below_size (by repeat (first | (with_reducible first | exact HB.out | apply below_alloc | apply pw_below_drewN | apply below_drew1 | refine below_set ?_ GE1143.out | refine below_set ?_ GE1144.out) | exact HB.out))))
  have n1_ := Aside0.mk (blk_below (g := gb1143) (o := .cells (sv a0_0) 73 (0, 0)) (by (with_reducible repeat (first | refine blk_drewN ?_ _ | refine blk_drew ?_ | refine blk_alloc ?_ _)); exact BK1143.out) hb)
  have n2_ := Aside0.mk (blk_below (g := gb1144) (o := .cells zv 73 (0, 0)) (by (with_reducible repeat (first | refine blk_drewN ?_ _ | refine blk_drew ?_ | refine blk_alloc ?_ _)); exact BK1144.out) hb)
  have n3_ := Aside0.mk (below_step (by repeat (first | (with_reducible first | exact HB.out | apply below_alloc | apply pw_below_drewN | apply below_drew1 | refine below_set ?_ GE1143.out | refine below_set ?_ GE1144.out) | exact HB.out)) hb)
  clear BK1143
  clear BK1144
  clear HB
  have HO1147 := n0_
  have BK1143 := n1_
  have BK1144 := n2_
  have HB := n3_
  clear n0_ n1_ n2_ n3_
  (try clear hb)
  (try clear hb2)
  (try clear hk)
  (try clear hi)
  (try clear ho0)
  refine hK.out _ _ (c7_of BK1143.out rfl) (fun hHeld => ?_)
  clear hK K
  refine norm_ (a' := ?_) ?_ ?_
  rotate_left
  · show Act.put _ (some 6) _ = _
    simp only [Act.put, List.setIfInBounds_toArray, List.set_cons_zero, List.set_cons_succ, i64_w, i32_w]
    rfl
  refine one_ (i := 2) (N := some 8) #[true, true, true, false, false, false, false, false, false] rfl rfl (one_of HT_.out (by kernel_rfl)) (by decide) (fun K hK => ?_)
  refine goes_ Try.func107 (by kernel_rfl) rfl #[.agg (sv a0_0)] (by rfl) rfl rfl (by (try simp only [List.map_toArray, List.map_cons, List.map_nil]); first | done | rfl | (simp only [List.length_drop, List.length_take]; rfl)) ?_
  with_reducible refine (scalar_Scalar_nat.calls a0_0 t1148 _ A3.out).mono ?_
  rintro e w10 ⟨v1149, rfl, ho0, hb⟩
  refine ⟨_, rfl, ?_⟩
  have n0_ := Aside0.mk (Kd.V_elder' (by (with_reducible repeat (first | apply Kd.V_alloc | apply Kd.V_drewN | apply Kd.V_drew)); exact HO1147.out) (Kd.R_base ho0) hb)
  have n1_ := Aside0.mk (Kd.R_lower ho0 (below_size (by repeat (first | (with_reducible first | exact HB.out | apply below_alloc | apply pw_below_drewN | apply below_drew1 | refine below_set ?_ GE1143.out | refine below_set ?_ GE1144.out) | exact HB.out))))
  have n2_ := Aside0.mk (blk_below (g := gb1143) (o := .cells (sv a0_0) 73 (0, 0)) (by (with_reducible repeat (first | refine blk_drewN ?_ _ | refine blk_drew ?_ | refine blk_alloc ?_ _)); exact BK1143.out) hb)
  have n3_ := Aside0.mk (blk_below (g := gb1144) (o := .cells zv 73 (0, 0)) (by (with_reducible repeat (first | refine blk_drewN ?_ _ | refine blk_drew ?_ | refine blk_alloc ?_ _)); exact BK1144.out) hb)
  have n4_ := Aside0.mk (below_step (by repeat (first | (with_reducible first | exact HB.out | apply below_alloc | apply pw_below_drewN | apply below_drew1 | refine below_set ?_ GE1143.out | refine below_set ?_ GE1144.out) | exact HB.out)) hb)
  clear HO1147
  clear BK1143
  clear BK1144
  clear HB
  have HO1147 := n0_
  have HO1150 := n1_
  have BK1143 := n2_
  have BK1144 := n3_
  have HB := n4_
  clear n0_ n1_ n2_ n3_ n4_
  (try clear hb)
  (try clear hb2)
  (try clear hk)
  (try clear hi)
  (try clear ho0)
  obtain ⟨Ao11, co11, eo11⟩ := Kd.V_slice HO1147.out
  (first | subst eo11 | (injection eo11 with f1_ f2_ f3_; have f4_ := f1_.symm; have f5_ := f3_.symm; clear f1_ f2_ f3_; subst f4_; subst f5_))
  obtain ⟨Ao12, co12, eo12⟩ := Kd.R_slice HO1150.out
  (first | subst eo12 | (injection eo12 with f1_ f2_ f3_; have f4_ := f1_.symm; have f5_ := f3_.symm; clear f1_ f2_ f3_; subst f4_; subst f5_))
  refine hK.out _ _ (c7_of BK1143.out rfl) (fun hHeld => ?_)
  clear hK K
  refine norm_ (a' := ?_) ?_ ?_
  rotate_left
  · show Act.put _ (some 8) _ = _
    simp only [Act.put, List.setIfInBounds_toArray, List.set_cons_zero, List.set_cons_succ, i64_w, i32_w]
    rfl
  refine one_ (i := 3) (N := some 9) #[true, true, true, true, false, false, false, false, false] rfl rfl (one_of HT_.out (by kernel_rfl)) (by decide) (fun K hK => ?_)
  refine goes_ Try.func52 (by kernel_rfl) rfl #[.slice Ao11 t1145.length co11, .slice Ao12 t1148.length co12] (by rfl) rfl rfl (by (try simp only [List.map_toArray, List.map_cons, List.map_nil]); first | done | rfl | (simp only [List.length_drop, List.length_take]; rfl)) ?_
  with_reducible refine (number_Sub.calls k _ _ t1145 _ _ t1148 t1151 t1154 _ ?side1 ?side2 ?side3 ?side4 A4.out).mono ?_
  (case side1 => repeat (first | exact (Kd.V_reads' HO1147.out).2.2 | (with_reducible refine Kd.C_alloc ?_ _) | (with_reducible refine Kd.C_drewN ?_ _) | (with_reducible refine Kd.C_drew ?_)))
  (case side2 => exact (Kd.V_reads' HO1147.out).2.1)
  (case side3 => repeat (first | exact (Kd.R_reads' HO1150.out).2.2 | (with_reducible refine Kd.C_alloc ?_ _) | (with_reducible refine Kd.C_drewN ?_ _) | (with_reducible refine Kd.C_drew ?_)))
  (case side4 => exact (Kd.R_reads' HO1150.out).2.1)
  rintro e w13 ⟨v1152, rfl, ho0, hb⟩
  refine ⟨_, rfl, ?_⟩
  have n0_ := Aside0.mk (Kd.V_below (by (with_reducible repeat (first | apply Kd.V_alloc | apply Kd.V_drewN | apply Kd.V_drew)); exact HO1147.out) hb)
  have n1_ := Aside0.mk (Kd.R_below (by (with_reducible repeat (first | apply Kd.R_alloc | apply Kd.R_drewN | apply Kd.R_drew)); exact HO1150.out) hb)
  have n2_ := Aside0.mk (Kd.V_lower (Kd.V_mono (ok' := fun k_ => some k_ ≠ (.slice Ao12 t1148.length co12 : Value).ownBlock ∧ k_ ≠ gb1143 ∧ k_ ≠ gb1144) ho0 (fun k_ hk_ => ⟨(Kd.fresh' (Kd.R_lt (by (with_reducible repeat (first | apply Kd.R_alloc | apply Kd.R_drewN | apply Kd.R_drew)); exact HO1150.out)) k_ hk_), (Kd.freshB (g := gb1143) (o := .cells (sv a0_0) 73 (0, 0)) (by (with_reducible repeat (first | refine blk_drewN ?_ _ | refine blk_drew ?_ | refine blk_alloc ?_ _)); exact BK1143.out) k_ hk_), (Kd.freshB (g := gb1144) (o := .cells zv 73 (0, 0)) (by (with_reducible repeat (first | refine blk_drewN ?_ _ | refine blk_drew ?_ | refine blk_alloc ?_ _)); exact BK1144.out) k_ hk_)⟩)) (below_size (by repeat (first | (with_reducible first | exact HB.out | apply below_alloc | apply pw_below_drewN | apply below_drew1 | refine below_set ?_ GE1143.out | refine below_set ?_ GE1144.out) | exact HB.out))))
  have n3_ := Aside0.mk (blk_below (g := gb1143) (o := .cells (sv a0_0) 73 (0, 0)) (by (with_reducible repeat (first | refine blk_drewN ?_ _ | refine blk_drew ?_ | refine blk_alloc ?_ _)); exact BK1143.out) hb)
  have n4_ := Aside0.mk (blk_below (g := gb1144) (o := .cells zv 73 (0, 0)) (by (with_reducible repeat (first | refine blk_drewN ?_ _ | refine blk_drew ?_ | refine blk_alloc ?_ _)); exact BK1144.out) hb)
  have n5_ := Aside0.mk (below_step (by repeat (first | (with_reducible first | exact HB.out | apply below_alloc | apply pw_below_drewN | apply below_drew1 | refine below_set ?_ GE1143.out | refine below_set ?_ GE1144.out) | exact HB.out)) hb)
  clear HO1147
  clear HO1150
  clear BK1143
  clear BK1144
  clear HB
  have HO1147 := n0_
  have HO1150 := n1_
  have HO1153 := n2_
  have BK1143 := n3_
  have BK1144 := n4_
  have HB := n5_
  clear n0_ n1_ n2_ n3_ n4_ n5_
  (try clear hb)
  (try clear hb2)
  (try clear hk)
  (try clear hi)
  (try clear ho0)
  refine hK.out _ _ (c7_of BK1143.out rfl) (fun hHeld => ?_)
  clear hK K
  refine norm_ (a' := ?_) ?_ ?_
  rotate_left
  · show Act.put _ (some 9) _ = _
    simp only [Act.put, List.setIfInBounds_toArray, List.set_cons_zero, List.set_cons_succ, i64_w, i32_w]
    rfl
  refine pure_ (i := 4) (N := some 5) (v := ?_) (a' := ?_) #[true, true, true, true, true, false, false, false, false] rfl rfl (any_of HT_.out (by kernel_rfl)) (fun _ _ _ h => h) (Or.inl ⟨by rfl, ?_⟩) ?_ ?_
  rotate_left
  · intro w'
    go_simp
    with_reducible rfl
  rotate_left
  · simp only [Act.put, List.setIfInBounds_toArray, List.set_cons_zero, List.set_cons_succ, i64_w, i32_w]
    rfl
  refine pure_ (i := 5) (N := some 10) (v := ?_) (a' := ?_) #[true, true, true, true, true, true, false, false, false] rfl rfl (any_of HT_.out (by kernel_rfl)) (fun _ _ _ h => h) (Or.inl ⟨by rfl, ?_⟩) ?_ ?_
  rotate_left
  · intro w'
    go_simp
    with_reducible rfl
  rotate_left
  · simp only [Act.put, List.setIfInBounds_toArray, List.set_cons_zero, List.set_cons_succ, i64_w, i32_w]
    rfl
  refine pure_ (i := 6) (N := some 11) (v := ?_) (a' := ?_) #[true, true, true, true, true, true, true, false, false] rfl rfl (any_of HT_.out (by kernel_rfl)) (fun _ _ _ h => h) (Or.inl ⟨by rfl, ?_⟩) ?_ ?_
  rotate_left
  · intro w'
    go_simp
    with_reducible rfl
  rotate_left
  · simp only [Act.put, List.setIfInBounds_toArray, List.set_cons_zero, List.set_cons_succ, i64_w, i32_w]
    rfl
  refine pure_ (i := 7) (N := some 3) (v := ?_) (a' := ?_) #[true, true, true, true, true, true, true, true, false] rfl rfl (any_of HT_.out (by kernel_rfl)) (fun _ _ _ h => h) (Or.inl ⟨by rfl, ?_⟩) ?_ ?_
  rotate_left
  · intro w'
    go_simp
    with_reducible rfl
  rotate_left
  · simp only [Act.put, List.setIfInBounds_toArray, List.set_cons_zero, List.set_cons_succ, i64_w, i32_w]
    rfl
  refine pure_ (i := 8) (N := some 4) (v := ?_) (a' := ?_) #[true, true, true, true, true, true, true, true, true] rfl rfl (any_of HT_.out (by kernel_rfl)) (fun _ _ _ h => h) (Or.inl ⟨by rfl, ?_⟩) ?_ ?_
  rotate_left
  · intro w'
    go_simp
    with_reducible rfl
  rotate_left
  · simp only [Act.put, List.setIfInBounds_toArray, List.set_cons_zero, List.set_cons_succ, i64_w, i32_w]
    rfl
  refine done_ (done_of HT_.out (by kernel_rfl)) ?_
  obtain ⟨Ao14, co14, eo14⟩ := Kd.V_slice HO1153.out
  subst eo14
  try go_wp2_with (first | ((with_reducible refine gate_callee (f := 106) rfl ?_); refine goesL_ (some 13) rfl rfl Try.func106 (by kernel_rfl) rfl #[.slice Ao14 t1151.length co14] rfl (by (try simp only [List.map_toArray, List.map_cons, List.map_nil]); first | done | rfl | (simp only [List.length_drop, List.length_take]; rfl)) ?_; (with_reducible refine (scalar_reduce.calls k (fun k_ => (some k_ ≠ (.slice Ao12 t1148.length co12 : Value).ownBlock ∧ (k_ ≠ gb1143 ∧ k_ ≠ gb1144))) _ _ t1151 t1155 _ ?side1 A5.out).mono ?_); (case side1 => exact HO1153.out); rintro e w15 ⟨rfl, hb⟩; refine ⟨_, rfl, ?_⟩; have n0_ := Aside0.mk (Kd.V_below (by (with_reducible repeat (first | apply Kd.V_alloc | apply Kd.V_drewN | apply Kd.V_drew)); exact HO1147.out) hb); have n1_ := Aside0.mk (Kd.R_below (by (with_reducible repeat (first | apply Kd.R_alloc | apply Kd.R_drewN | apply Kd.R_drew)); exact HO1150.out) hb); have n2_ := Aside0.mk (Kd.V_below (by (with_reducible repeat (first | apply Kd.V_alloc | apply Kd.V_drewN | apply Kd.V_drew)); exact HO1153.out) hb); have n3_ := Aside0.mk (blk_below (g := gb1143) (o := .cells (sv a0_0) 73 (0, 0)) (by (with_reducible repeat (first | refine blk_drewN ?_ _ | refine blk_drew ?_ | refine blk_alloc ?_ _)); exact BK1143.out) hb); have n4_ := Aside0.mk (blk_below (g := gb1144) (o := .cells zv 73 (0, 0)) (by (with_reducible repeat (first | refine blk_drewN ?_ _ | refine blk_drew ?_ | refine blk_alloc ?_ _)); exact BK1144.out) hb); have n5_ := Aside0.mk (below_step (by repeat (first | (with_reducible first | exact HB.out | apply below_alloc | apply pw_below_drewN | apply below_drew1 | refine below_set ?_ GE1143.out | refine below_set ?_ GE1144.out) | exact HB.out)) hb); clear HO1147; clear HO1150; clear HO1153; clear BK1143; clear BK1144; clear HB; have HO1147 := n0_; have HO1150 := n1_; have HO1153 := n2_; have BK1143 := n3_; have BK1144 := n4_; have HB := n5_; clear n0_ n1_ n2_ n3_ n4_ n5_; (try clear hb); (try clear hb2); (try clear hk); (try clear hi); have hnb16 := NB1144_1143.out; have hnc16 := NB1143_1144.out; obtain ⟨hcz17_0, hcz17_0_c1, hcz17_0_c2, hcz17_0_c3, hcz17_0_c4, hcz17_0_c5, hcz17_0_c6⟩ := c7_of (a := z7) BK1144.out rfl; obtain ⟨hfz17_0, hfz17_0_c1, hfz17_0_c2, hfz17_0_c3, hfz17_0_c4, hfz17_0_c5, hfz17_0_c6⟩ := fz7 BK1144.out))
  refine bodyPost_ret (results_cell_row rfl _ _ gb1144 73 (sv t1155) (0, 0) _ rfl (by (with_reducible repeat (first | refine blk_drewN ?_ _ | refine blk_drew ?_ | refine blk_alloc ?_ _)); refine blk_put7z ?_; (with_reducible repeat (first | refine blk_drewN ?_ _ | refine blk_drew ?_ | refine blk_alloc ?_ _)); exact BK1144.out) Try.underlying73 rfl (by kernel_rfl)) rfl ?_
  exact ⟨by first | rfl | (simp [errW_none, errW_some] <;> rfl) | (simp [*, errW_none, errW_some] <;> rfl), by repeat (first | (with_reducible first | exact HB.out | apply below_alloc | apply pw_below_drewN | apply below_drew1 | refine below_set ?_ GE1143.out | refine below_set ?_ GE1144.out) | exact HB.out)⟩
def scalar_Sub.f (k : Nat) (a0_0 : List Int) (a1_0 : List Int) : Option (List Int) := (scalar_Neg.f k a1_0).bind fun t1159 => ((scalar_Add.f k a0_0 t1159).bind fun t1160 => (some t1160))
theorem scalar_Sub.mono : ∀ a0 a1 k, LeO (scalar_Sub.f k a0 a1) (scalar_Sub.f (k + 1) a0 a1) := by
  intro a0 a1 k
  unfold scalar_Sub.f
  repeat' first
      | (with_reducible exact scalar_Add.mono _ _ _)
      | (with_reducible exact scalar_Neg.mono _ _)
      | (with_reducible exact LeO.refl _)
      | (with_reducible exact LeO.none _)
      | (with_reducible refine LeO.ite ?_ ?_)
      | (with_reducible refine LeO.bind ?_ (fun _ => ?_))
      | exact scalar_Add.mono _ _ _
      | exact scalar_Neg.mono _ _
      | exact LeO.none _
      | refine LeO.ite ?_ ?_
      | refine LeO.bind ?_ (fun _ => ?_)
set_option maxHeartbeats 8000000 in
set_option maxRecDepth 100000 in
theorem scalar_Sub.calls (k : Nat) (a0_0 : List Int) (a1_0 : List Int) (r : List Int) (w : World) (h : scalar_Sub.f k a0_0 a1_0 = some r) :
    Calls Try.prog 66 #[.agg (sv a0_0), .agg (sv a1_0)] w fun e w' => e = .returned (.agg (sv r)) ∧ Below w.heap.size w w' := by
  have hu73 := Try.underlying73
  have HB := Aside0.mk (Below.refl w.heap.size w)
  have H : ((scalar_Neg.f k a1_0).bind fun t1159 => ((scalar_Add.f k a0_0 t1159).bind fun t1160 => (some t1160))) = some r := h
  clear h
  replace H := Option.bind_eq_some_iff.mp H
  obtain ⟨t1159, A30, H⟩ := H
  replace H : ((scalar_Add.f k a0_0 t1159).bind fun t1160 => (some t1160)) = some r := H
  have A3 := Aside0.mk A30
  clear A30
  replace H := Option.bind_eq_some_iff.mp H
  obtain ⟨t1160, A40, H⟩ := H
  replace H : (some t1160) = some r := H
  have A4 := Aside0.mk A40
  clear A40
  obtain rfl := Option.some.inj H
  go_enter Try.func66, Try.ntmps66
  try go_wp2_with (first | ((with_reducible refine gate_dst (N := 2) rfl ?_); refine box_event ?hg (N := 2) ?hd (cs := (sv a0_0)) (t := 73) ?hr ?_; (case hd => rfl); (case hg => rfl); (case hr => first | (go_simp; done) | (go_simp; rfl)); intro gb1156 hg w5 hbox hb; have n0_ := Aside0.mk (below_step (by repeat (first | (with_reducible first | exact HB.out | apply below_alloc | apply pw_below_drewN | apply below_drew1) | exact HB.out)) hb); have n1_ := Aside0.mk (hbox); have n2_ := Aside0.mk ((by rw [hg]; exact (below_size (by repeat (first | (with_reducible first | exact HB.out | apply below_alloc | apply pw_below_drewN | apply below_drew1) | exact HB.out))) : w.heap.size ≤ gb1156)); have n3_ := Aside0.mk ((by rw [hg]; exact (below_size (by repeat (first | (with_reducible first | exact HB.out | apply below_alloc | apply pw_below_drewN | apply below_drew1) | exact HB.out))) : w.heap.size ≤ gb1156)); clear HB; have HB := n0_; have BK1156 := n1_; have GW1156 := n2_; have GE1156 := n3_; clear n0_ n1_ n2_ n3_; clear hb hbox hg) | ((with_reducible refine gate_dst (N := 3) rfl ?_); refine box_event ?hg (N := 3) ?hd (cs := (sv a1_0)) (t := 73) ?hr ?_; (case hd => rfl); (case hg => rfl); (case hr => first | (go_simp; done) | (go_simp; rfl)); intro gb1157 hg w6 hbox hb; have n0_ := Aside0.mk (blk_below (g := gb1156) (o := .cells (sv a0_0) 73 (0, 0)) (by (with_reducible repeat (first | refine blk_drewN ?_ _ | refine blk_drew ?_ | refine blk_alloc ?_ _)); exact BK1156.out) hb); have n1_ := Aside0.mk (below_step (by repeat (first | (with_reducible first | exact HB.out | apply below_alloc | apply pw_below_drewN | apply below_drew1 | refine below_set ?_ GE1156.out) | exact HB.out)) hb); have n2_ := Aside0.mk (hbox); have n3_ := Aside0.mk ((by rw [hg]; exact (below_size (by repeat (first | (with_reducible first | exact HB.out | apply below_alloc | apply pw_below_drewN | apply below_drew1 | refine below_set ?_ GE1156.out) | exact HB.out))) : w.heap.size ≤ gb1157)); have n4_ := Aside0.mk ((by rw [hg]; exact (below_size (by repeat (first | (with_reducible first | exact HB.out | apply below_alloc | apply pw_below_drewN | apply below_drew1 | refine below_set ?_ GE1156.out) | exact HB.out))) : w.heap.size ≤ gb1157)); have n5_ := Aside0.mk ((by rw [hg]; exact Nat.ne_of_lt (blk_lt (g := gb1156) (o := .cells (sv a0_0) 73 (0, 0)) (by (with_reducible repeat (first | refine blk_drewN ?_ _ | refine blk_drew ?_ | refine blk_alloc ?_ _)); exact BK1156.out)) : gb1156 ≠ gb1157)); have n6_ := Aside0.mk ((by rw [hg]; exact Nat.ne_of_gt (blk_lt (g := gb1156) (o := .cells (sv a0_0) 73 (0, 0)) (by (with_reducible repeat (first | refine blk_drewN ?_ _ | refine blk_drew ?_ | refine blk_alloc ?_ _)); exact BK1156.out)) : gb1157 ≠ gb1156)); clear BK1156; clear HB; have BK1156 := n0_; have HB := n1_; have BK1157 := n2_; have GW1157 := n3_; have GE1157 := n4_; have NB1156_1157 := n5_; have NB1157_1156 := n6_; clear n0_ n1_ n2_ n3_ n4_ n5_ n6_; clear hb hbox hg) | ((with_reducible refine gate_dst (N := 4) rfl ?_); refine box_event ?hg (N := 4) ?hd (cs := zv) (t := 73) ?hr ?_; (case hd => rfl); (case hg => rfl); (case hr => first | (go_simp; done) | (go_simp; rfl)); intro gb1158 hg w7 hbox hb; have n0_ := Aside0.mk (blk_below (g := gb1156) (o := .cells (sv a0_0) 73 (0, 0)) (by (with_reducible repeat (first | refine blk_drewN ?_ _ | refine blk_drew ?_ | refine blk_alloc ?_ _)); exact BK1156.out) hb); have n1_ := Aside0.mk (blk_below (g := gb1157) (o := .cells (sv a1_0) 73 (0, 0)) (by (with_reducible repeat (first | refine blk_drewN ?_ _ | refine blk_drew ?_ | refine blk_alloc ?_ _)); exact BK1157.out) hb); have n2_ := Aside0.mk (below_step (by repeat (first | (with_reducible first | exact HB.out | apply below_alloc | apply pw_below_drewN | apply below_drew1 | refine below_set ?_ GE1156.out | refine below_set ?_ GE1157.out) | exact HB.out)) hb); have n3_ := Aside0.mk (hbox); have n4_ := Aside0.mk ((by rw [hg]; exact (below_size (by repeat (first | (with_reducible first | exact HB.out | apply below_alloc | apply pw_below_drewN | apply below_drew1 | refine below_set ?_ GE1156.out | refine below_set ?_ GE1157.out) | exact HB.out))) : w.heap.size ≤ gb1158)); have n5_ := Aside0.mk ((by rw [hg]; exact (below_size (by repeat (first | (with_reducible first | exact HB.out | apply below_alloc | apply pw_below_drewN | apply below_drew1 | refine below_set ?_ GE1156.out | refine below_set ?_ GE1157.out) | exact HB.out))) : w.heap.size ≤ gb1158)); have n6_ := Aside0.mk ((by rw [hg]; exact Nat.ne_of_lt (blk_lt (g := gb1156) (o := .cells (sv a0_0) 73 (0, 0)) (by (with_reducible repeat (first | refine blk_drewN ?_ _ | refine blk_drew ?_ | refine blk_alloc ?_ _)); exact BK1156.out)) : gb1156 ≠ gb1158)); have n7_ := Aside0.mk ((by rw [hg]; exact Nat.ne_of_gt (blk_lt (g := gb1156) (o := .cells (sv a0_0) 73 (0, 0)) (by (with_reducible repeat (first | refine blk_drewN ?_ _ | refine blk_drew ?_ | refine blk_alloc ?_ _)); exact BK1156.out)) : gb1158 ≠ gb1156)); have n8_ := Aside0.mk ((by rw [hg]; exact Nat.ne_of_lt (blk_lt (g := gb1157) (o := .cells (sv a1_0) 73 (0, 0)) (by (with_reducible repeat (first | refine blk_drewN ?_ _ | refine blk_drew ?_ | refine blk_alloc ?_ _)); exact BK1157.out)) : gb1157 ≠ gb1158)); have n9_ := Aside0.mk ((by rw [hg]; exact Nat.ne_of_gt (blk_lt (g := gb1157) (o := .cells (sv a1_0) 73 (0, 0)) (by (with_reducible repeat (first | refine blk_drewN ?_ _ | refine blk_drew ?_ | refine blk_alloc ?_ _)); exact BK1157.out)) : gb1158 ≠ gb1157)); clear BK1156; clear BK1157; clear HB; have BK1156 := n0_; have BK1157 := n1_; have HB := n2_; have BK1158 := n3_; have GW1158 := n4_; have GE1158 := n5_; have NB1156_1158 := n6_; have NB1158_1156 := n7_; have NB1157_1158 := n8_; have NB1158_1157 := n9_; clear n0_ n1_ n2_ n3_ n4_ n5_ n6_ n7_ n8_ n9_; clear hb hbox hg))
  have n0_ := Aside0.mk (blk_drew BK1156.out)
  have n1_ := Aside0.mk (blk_drew BK1157.out)
  have n2_ := Aside0.mk (blk_drew BK1158.out)
  have n3_ := Aside0.mk (below_drew1 HB.out)
  clear BK1156
  clear BK1157
  clear BK1158
  clear HB
  have BK1156 := n0_
  have BK1157 := n1_
  have BK1158 := n2_
  have HB := n3_
  clear n0_ n1_ n2_ n3_
  refine start_ (n := 5) (S := fun w' => c7 w' gb1156 a0_0 ∧ c7 w' gb1157 a1_0) (ds := []) #[false, false, false, false, false] (by kernel_rfl) rfl rfl ⟨c7_of BK1156.out rfl, c7_of BK1157.out rfl⟩ (fun hHeld => ?_)
  generalize w7.drew = w8 at BK1156 BK1157 BK1158 HB hHeld ⊢
  refine take_ (i := 0) (N := some 5) (v := ?_) (a' := ?_) #[true, false, false, false, false] rfl rfl (by kernel_rfl) (fun _ _ _ h => h) (Or.inl ⟨by rfl, ?_⟩) hHeld ?_ ?_
  rotate_left
  · rintro w' ⟨⟨s0, s0_c1, s0_c2, s0_c3, s0_c4, s0_c5, s0_c6⟩, ⟨s1, s1_c1, s1_c2, s1_c3, s1_c4, s1_c5, s1_c6⟩⟩
    go_simp
    with_reducible rfl
  rotate_left
  · simp only [Act.put, List.setIfInBounds_toArray, List.set_cons_zero, List.set_cons_succ, i64_w, i32_w]
    rfl
  refine take_ (i := 1) (N := some 6) (v := ?_) (a' := ?_) #[true, true, false, false, false] rfl rfl (by kernel_rfl) (fun _ _ _ h => h) (Or.inl ⟨by rfl, ?_⟩) hHeld ?_ ?_
  rotate_left
  · rintro w' ⟨⟨s0, s0_c1, s0_c2, s0_c3, s0_c4, s0_c5, s0_c6⟩, ⟨s1, s1_c1, s1_c2, s1_c3, s1_c4, s1_c5, s1_c6⟩⟩
    go_simp
    with_reducible rfl
  rotate_left
  · simp only [Act.put, List.setIfInBounds_toArray, List.set_cons_zero, List.set_cons_succ, i64_w, i32_w]
    rfl
  refine one_ (i := 2) (N := some 7) #[true, true, true, false, false] rfl rfl (by kernel_rfl) (by decide) (fun K hK => ?_)
  refine goes_ Try.func68 (by kernel_rfl) rfl #[.agg (sv a1_0)] (by rfl) rfl rfl (by (try simp only [List.map_toArray, List.map_cons, List.map_nil]); first | done | rfl | (simp only [List.length_drop, List.length_take]; rfl)) ?_
  with_reducible refine (scalar_Neg.calls k a1_0 t1159 _ A3.out).mono ?_
  rintro e w9 ⟨rfl, hb⟩
  refine ⟨_, rfl, ?_⟩
  have n0_ := Aside0.mk (blk_below (g := gb1156) (o := .cells (sv a0_0) 73 (0, 0)) (by (with_reducible repeat (first | refine blk_drewN ?_ _ | refine blk_drew ?_ | refine blk_alloc ?_ _)); exact BK1156.out) hb)
  have n1_ := Aside0.mk (blk_below (g := gb1157) (o := .cells (sv a1_0) 73 (0, 0)) (by (with_reducible repeat (first | refine blk_drewN ?_ _ | refine blk_drew ?_ | refine blk_alloc ?_ _)); exact BK1157.out) hb)
  have n2_ := Aside0.mk (blk_below (g := gb1158) (o := .cells zv 73 (0, 0)) (by (with_reducible repeat (first | refine blk_drewN ?_ _ | refine blk_drew ?_ | refine blk_alloc ?_ _)); exact BK1158.out) hb)
  have n3_ := Aside0.mk (below_step (by repeat (first | (with_reducible first | exact HB.out | apply below_alloc | apply pw_below_drewN | apply below_drew1 | refine below_set ?_ GE1156.out | refine below_set ?_ GE1157.out | refine below_set ?_ GE1158.out) | exact HB.out)) hb)
  clear BK1156
  clear BK1157
  clear BK1158
  clear HB
  have BK1156 := n0_
  have BK1157 := n1_
  have BK1158 := n2_
  have HB := n3_
  clear n0_ n1_ n2_ n3_
  (try clear hb)
  (try clear hb2)
  (try clear hk)
  (try clear hi)
  refine hK.out _ _ ⟨c7_of BK1156.out rfl, c7_of BK1157.out rfl⟩ (fun hHeld => ?_)
  clear hK K
  refine norm_ (a' := ?_) ?_ ?_
  rotate_left
  · show Act.put _ (some 7) _ = _
    simp only [Act.put, List.setIfInBounds_toArray, List.set_cons_zero, List.set_cons_succ, i64_w, i32_w]
    rfl
  refine one_ (i := 3) (N := some 8) #[true, true, true, true, false] rfl rfl (by kernel_rfl) (by decide) (fun K hK => ?_)
  refine goes_ Try.func64 (by kernel_rfl) rfl #[.agg (sv a0_0), .agg (sv t1159)] (by rfl) rfl rfl (by (try simp only [List.map_toArray, List.map_cons, List.map_nil]); first | done | rfl | (simp only [List.length_drop, List.length_take]; rfl)) ?_
  with_reducible refine (scalar_Add.calls k a0_0 t1159 t1160 _ A4.out).mono ?_
  rintro e w10 ⟨rfl, hb⟩
  refine ⟨_, rfl, ?_⟩
  have n0_ := Aside0.mk (blk_below (g := gb1156) (o := .cells (sv a0_0) 73 (0, 0)) (by (with_reducible repeat (first | refine blk_drewN ?_ _ | refine blk_drew ?_ | refine blk_alloc ?_ _)); exact BK1156.out) hb)
  have n1_ := Aside0.mk (blk_below (g := gb1157) (o := .cells (sv a1_0) 73 (0, 0)) (by (with_reducible repeat (first | refine blk_drewN ?_ _ | refine blk_drew ?_ | refine blk_alloc ?_ _)); exact BK1157.out) hb)
  have n2_ := Aside0.mk (blk_below (g := gb1158) (o := .cells zv 73 (0, 0)) (by (with_reducible repeat (first | refine blk_drewN ?_ _ | refine blk_drew ?_ | refine blk_alloc ?_ _)); exact BK1158.out) hb)
  have n3_ := Aside0.mk (below_step (by repeat (first | (with_reducible first | exact HB.out | apply below_alloc | apply pw_below_drewN | apply below_drew1 | refine below_set ?_ GE1156.out | refine below_set ?_ GE1157.out | refine below_set ?_ GE1158.out) | exact HB.out)) hb)
  clear BK1156
  clear BK1157
  clear BK1158
  clear HB
  have BK1156 := n0_
  have BK1157 := n1_
  have BK1158 := n2_
  have HB := n3_
  clear n0_ n1_ n2_ n3_
  (try clear hb)
  (try clear hb2)
  (try clear hk)
  (try clear hi)
  refine hK.out _ _ ⟨c7_of BK1156.out rfl, c7_of BK1157.out rfl⟩ (fun hHeld => ?_)
  clear hK K
  refine norm_ (a' := ?_) ?_ ?_
  rotate_left
  · show Act.put _ (some 8) _ = _
    simp only [Act.put, List.setIfInBounds_toArray, List.set_cons_zero, List.set_cons_succ, i64_w, i32_w]
    rfl
  refine one_ (i := 4) (N := none) #[true, true, true, true, true] rfl rfl (by kernel_rfl) (by decide) (fun K hK => ?_)
  obtain ⟨hs11, hs11_c1, hs11_c2, hs11_c3, hs11_c4, hs11_c5, hs11_c6⟩ := c7_of (a := z7) BK1158.out rfl
  obtain ⟨hfs11, hfs11_c1, hfs11_c2, hfs11_c3, hfs11_c4, hfs11_c5, hfs11_c6⟩ := fz7 BK1158.out
  have hns11_0 := NB1156_1158.out
  have hns11_1 := NB1157_1158.out
  have hms11_0 := NB1158_1156.out
  have hms11_1 := NB1158_1157.out
  refine skip_ (w1 := ?_) (by rfl) rfl ?_ ?_
  rotate_left
  · go_simp
    rfl
  refine hK.out _ _ ⟨(c7_far7 (p := gb1158) NB1156_1158.out hHeld.1), (c7_far7 (p := gb1158) NB1157_1158.out hHeld.2)⟩ (fun hHeld => ?_)
  clear hK K
  refine done_ (by kernel_rfl) ?_
  try go_wp2
  refine bodyPost_ret (results_cell_row rfl _ _ gb1158 73 (sv t1160) (0, 0) _ rfl (by (with_reducible repeat (first | refine blk_drewN ?_ _ | refine blk_drew ?_ | refine blk_alloc ?_ _)); refine blk_put7z ?_; (with_reducible repeat (first | refine blk_drewN ?_ _ | refine blk_drew ?_ | refine blk_alloc ?_ _)); exact BK1158.out) Try.underlying73 rfl (by kernel_rfl)) rfl ?_
  exact ⟨by first | rfl | (simp [errW_none, errW_some] <;> rfl) | (simp [*, errW_none, errW_some] <;> rfl), by repeat (first | (with_reducible first | exact HB.out | apply below_alloc | apply pw_below_drewN | apply below_drew1 | refine below_set ?_ GE1156.out | refine below_set ?_ GE1157.out | refine below_set ?_ GE1158.out) | exact HB.out)⟩
def chicoryref06_Neg.f (k : Nat) (l0 : List Int) : Option (List Int) := (chicoryref06_L.f k).bind fun t1161 => ((chicoryref03_Sub.f k t1161 l0).bind fun t1164 => ((chicoryref06_Reduce.f k t1164).bind fun t1167 => (some t1167)))
set_option maxHeartbeats 8000000 in
set_option maxRecDepth 100000 in
theorem chicoryref06_Neg.calls (k : Nat) (A0 : Option Addr) (c0 : Nat) (l0 : List Int) (r : List Int) (w : World) (hr0 : Kd.C (Kd.int .u8) w A0 l0.length l0) (hc0 : l0.length ≤ c0) (h : chicoryref06_Neg.f k l0 = some r) :
    Calls Try.prog 67 #[.slice A0 l0.length c0] w fun e w' => ∃ v0_ : Value, e = .returned (v0_) ∧ Kd.V (Kd.int .u8) 5 w' w.heap.size (fun k_ => (w.heap.size ≤ k_)) v0_ r ∧ Below w.heap.size w w' := by
  have HR0 := Aside0.mk hr0
  have HC0 := Aside0.mk hc0
  clear hr0 hc0
  have HB := Aside0.mk (Below.refl w.heap.size w)
  have H : ((chicoryref06_L.f k).bind fun t1161 => ((chicoryref03_Sub.f k t1161 l0).bind fun t1164 => ((chicoryref06_Reduce.f k t1164).bind fun t1167 => (some t1167)))) = some r := h
  clear h
  replace H := Option.bind_eq_some_iff.mp H
  obtain ⟨t1161, A20, H⟩ := H
  replace H : ((chicoryref03_Sub.f k t1161 l0).bind fun t1164 => ((chicoryref06_Reduce.f k t1164).bind fun t1167 => (some t1167))) = some r := H
  have A2 := Aside0.mk A20
  clear A20
  replace H := Option.bind_eq_some_iff.mp H
  obtain ⟨t1164, A30, H⟩ := H
  replace H : ((chicoryref06_Reduce.f k t1164).bind fun t1167 => (some t1167)) = some r := H
  have A3 := Aside0.mk A30
  clear A30
  replace H := Option.bind_eq_some_iff.mp H
  obtain ⟨t1167, A40, H⟩ := H
  replace H : (some t1167) = some r := H
  have A4 := Aside0.mk A40
  clear A40
  obtain rfl := Option.some.inj H
  go_enter Try.func67, Try.ntmps67
  go_wp2_with (first | ((with_reducible refine gate_callee (f := 85) rfl ?_); refine goesL_ (some 3) rfl rfl Try.func85 (by kernel_rfl) rfl #[] rfl (by (try simp only [List.map_toArray, List.map_cons, List.map_nil]); first | done | rfl | (simp only [List.length_drop, List.length_take]; rfl)) ?_; (with_reducible refine (chicoryref06_L.calls k  t1161 _ A2.out).mono ?_); rintro e w5 ⟨v1162, rfl, ho0, hb⟩; refine ⟨_, rfl, ?_⟩; have n0_ := Aside0.mk (Kd.V_lower (Kd.V_mono (ok' := fun k_ => (w.heap.size ≤ k_)) ho0 (fun k_ hk_ => (Nat.le_trans (below_size (by repeat (first | (with_reducible first | exact HB.out | apply below_alloc | apply pw_below_drewN | apply below_drew1) | exact HB.out))) hk_))) (below_size (by repeat (first | (with_reducible first | exact HB.out | apply below_alloc | apply pw_below_drewN | apply below_drew1) | exact HB.out)))); have n1_ := Aside0.mk (below_step (by repeat (first | (with_reducible first | exact HB.out | apply below_alloc | apply pw_below_drewN | apply below_drew1) | exact HB.out)) hb); clear HB; have HO1163 := n0_; have HB := n1_; clear n0_ n1_; (try clear hb); (try clear hb2); (try clear hk); (try clear hi); (try clear ho0); obtain ⟨Ao6, co6, eo6⟩ := Kd.V_slice HO1163.out; subst eo6) | ((with_reducible refine gate_callee (f := 53) rfl ?_); refine goesL_ (some 5) rfl rfl Try.func53 (by kernel_rfl) rfl #[.slice Ao6 t1161.length co6, .slice A0 l0.length c0] rfl (by (try simp only [List.map_toArray, List.map_cons, List.map_nil]); first | done | rfl | (simp only [List.length_drop, List.length_take]; rfl)) ?_; (with_reducible refine (chicoryref03_Sub.calls k _ _ t1161 _ _ l0 t1164 _ ?side1 ?side2 ?side3 ?side4 A3.out).mono ?_); (case side1 => repeat (first | exact (Kd.V_reads' HO1163.out).2.2 | (with_reducible refine Kd.C_alloc ?_ _) | (with_reducible refine Kd.C_drewN ?_ _) | (with_reducible refine Kd.C_drew ?_))); (case side2 => exact (Kd.V_reads' HO1163.out).2.1); (case side3 => repeat (first | exact (Kd.C_below HR0.out HB.out) | (with_reducible refine Kd.C_alloc ?_ _) | (with_reducible refine Kd.C_drewN ?_ _) | (with_reducible refine Kd.C_drew ?_))); (case side4 => exact HC0.out); rintro e w7 ⟨v1165, rfl, ho0, hb⟩; refine ⟨_, rfl, ?_⟩; have n0_ := Aside0.mk (Kd.V_below (by (with_reducible repeat (first | apply Kd.V_alloc | apply Kd.V_drewN | apply Kd.V_drew)); exact HO1163.out) hb); have n1_ := Aside0.mk (Kd.V_lower (Kd.V_mono (ok' := fun k_ => (w.heap.size ≤ k_)) ho0 (fun k_ hk_ => (Nat.le_trans (below_size (by repeat (first | (with_reducible first | exact HB.out | apply below_alloc | apply pw_below_drewN | apply below_drew1) | exact HB.out))) hk_))) (below_size (by repeat (first | (with_reducible first | exact HB.out | apply below_alloc | apply pw_below_drewN | apply below_drew1) | exact HB.out)))); have n2_ := Aside0.mk (below_step (by repeat (first | (with_reducible first | exact HB.out | apply below_alloc | apply pw_below_drewN | apply below_drew1) | exact HB.out)) hb); clear HO1163; clear HB; have HO1163 := n0_; have HO1166 := n1_; have HB := n2_; clear n0_ n1_ n2_; (try clear hb); (try clear hb2); (try clear hk); (try clear hi); (try clear ho0); obtain ⟨Ao8, co8, eo8⟩ := Kd.V_slice HO1166.out; subst eo8) | ((with_reducible refine gate_callee (f := 86) rfl ?_); refine goesL_ (some 6) rfl rfl Try.func86 (by kernel_rfl) rfl #[.slice Ao8 t1164.length co8] rfl (by (try simp only [List.map_toArray, List.map_cons, List.map_nil]); first | done | rfl | (simp only [List.length_drop, List.length_take]; rfl)) ?_; (with_reducible refine (chicoryref06_Reduce.calls k (fun k_ => (w.heap.size ≤ k_)) _ _ t1164 t1167 _ ?side1 A4.out).mono ?_); (case side1 => exact HO1166.out); rintro e w9 ⟨v1168, rfl, ho0, hb⟩; refine ⟨_, rfl, ?_⟩; have n0_ := Aside0.mk (Kd.V_below (by (with_reducible repeat (first | apply Kd.V_alloc | apply Kd.V_drewN | apply Kd.V_drew)); exact HO1163.out) hb); have n1_ := Aside0.mk (Kd.V_below (by (with_reducible repeat (first | apply Kd.V_alloc | apply Kd.V_drewN | apply Kd.V_drew)); exact HO1166.out) hb); have n2_ := Aside0.mk (Kd.V_lower (Kd.V_mono (ok' := fun k_ => (w.heap.size ≤ k_)) ho0 (fun k_ hk_ => Or.elim hk_ (fun hs_ => hs_) (fun hn_ => (Nat.le_trans (below_size (by repeat (first | (with_reducible first | exact HB.out | apply below_alloc | apply pw_below_drewN | apply below_drew1) | exact HB.out))) hn_)))) (below_size (by repeat (first | (with_reducible first | exact HB.out | apply below_alloc | apply pw_below_drewN | apply below_drew1) | exact HB.out)))); have n3_ := Aside0.mk (below_step (by repeat (first | (with_reducible first | exact HB.out | apply below_alloc | apply pw_below_drewN | apply below_drew1) | exact HB.out)) hb); clear HO1163; clear HO1166; clear HB; have HO1163 := n0_; have HO1166 := n1_; have HO1169 := n2_; have HB := n3_; clear n0_ n1_ n2_ n3_; (try clear hb); (try clear hb2); (try clear hk); (try clear hi); (try clear ho0)))
  go_ret
  exact ⟨_, by first | rfl | (simp [errW_none, errW_some] <;> rfl) | (simp [*, errW_none, errW_some] <;> rfl), by (with_reducible repeat (first | apply Kd.V_alloc | apply Kd.V_drewN | apply Kd.V_drew)); exact HO1169.out, by repeat (first | (with_reducible first | exact HB.out | apply below_alloc | apply pw_below_drewN | apply below_drew1) | exact HB.out)⟩
def scalar_Int.f (k : Nat) (a0 : Int) : Option (List Int) := if a0 < 0 then ((scalar_reduce.f k (([IntKind.u64.wrap (wrap64 (-a0))] : List Int))).bind fun t1174 => ((scalar_Neg.f k t1174).bind fun t1175 => (some t1175))) else ((scalar_reduce.f k (([IntKind.u64.wrap (a0)] : List Int))).bind fun t1179 => (some t1179))
theorem scalar_Int.mono : ∀ a0 k, LeO (scalar_Int.f k a0) (scalar_Int.f (k + 1) a0) := by
  intro a0 k
  unfold scalar_Int.f
  repeat' first
      | (with_reducible exact scalar_Neg.mono _ _)
      | (with_reducible exact scalar_reduce.mono _ _)
      | (with_reducible exact LeO.refl _)
      | (with_reducible exact LeO.none _)
      | (with_reducible refine LeO.ite ?_ ?_)
      | (with_reducible refine LeO.bind ?_ (fun _ => ?_))
      | exact scalar_Neg.mono _ _
      | exact scalar_reduce.mono _ _
      | exact LeO.none _
      | refine LeO.ite ?_ ?_
      | refine LeO.bind ?_ (fun _ => ?_)
set_option maxHeartbeats 8000000 in
set_option maxRecDepth 100000 in
theorem scalar_Int.calls (k : Nat) (a0 : Int) (r : List Int) (w : World) (h : scalar_Int.f k a0 = some r) :
    Calls Try.prog 69 #[.int .i64 a0] w fun e w' => e = .returned (.agg (sv r)) ∧ Below w.heap.size w w' := by
  have hu73 := Try.underlying73
  have HB := Aside0.mk (Below.refl w.heap.size w)
  have H : (if a0 < 0 then ((scalar_reduce.f k (([IntKind.u64.wrap (wrap64 (-a0))] : List Int))).bind fun t1174 => ((scalar_Neg.f k t1174).bind fun t1175 => (some t1175))) else ((scalar_reduce.f k (([IntKind.u64.wrap (a0)] : List Int))).bind fun t1179 => (some t1179))) = some r := h
  clear h
  by_cases c2 : a0 < 0
  · rw [if_pos c2] at H
    have c2b0 : decide (a0 < 0) = true := decide_eq_true c2
    clear c2
    obtain ⟨y1171, hy1171⟩ : ∃ y_ : List Int, y_ = (([IntKind.u64.wrap (wrap64 (-a0))] : List Int)) := ⟨_, rfl⟩
    replace H : ((scalar_reduce.f k y1171).bind fun t1174 => ((scalar_Neg.f k t1174).bind fun t1175 => (some t1175))) = some r := by first | (rw [hy1171]; with_reducible exact H) | (have H2_ := (Option.bind_some _ _).symm.trans H; rw [hy1171]; with_reducible exact H2_) | (have H2_ := (Option.bind_some _ _).symm.trans H; with_reducible exact H2_) | with_reducible exact H | (rw [hy1171]; exact H) | exact H
    have Ny1171 := Aside0.mk hy1171
    clear hy1171
    replace H := Option.bind_eq_some_iff.mp H
    obtain ⟨t1174, A30, H⟩ := H
    replace H : ((scalar_Neg.f k t1174).bind fun t1175 => (some t1175)) = some r := H
    have A3 := Aside0.mk A30
    clear A30
    replace H := Option.bind_eq_some_iff.mp H
    obtain ⟨t1175, A40, H⟩ := H
    replace H : (some t1175) = some r := H
    have A4 := Aside0.mk A40
    clear A40
    obtain rfl := Option.some.inj H
    go_enter Try.func69, Try.ntmps69
    go_wp2_with (first | ((with_reducible refine gate_dst (N := 2) rfl ?_); refine box_event ?hg (N := 2) ?hd (cs := zv) (t := 73) ?hr ?_; (case hd => rfl); (case hg => rfl); (case hr => first | (go_simp; done) | (go_simp; rfl)); intro gb1170 hg w5 hbox hb; have n0_ := Aside0.mk (below_step (by repeat (first | (with_reducible first | exact HB.out | apply below_alloc | apply pw_below_drewN | apply below_drew1) | exact HB.out)) hb); have n1_ := Aside0.mk (hbox); have n2_ := Aside0.mk ((by rw [hg]; exact (below_size (by repeat (first | (with_reducible first | exact HB.out | apply below_alloc | apply pw_below_drewN | apply below_drew1) | exact HB.out))) : w.heap.size ≤ gb1170)); have n3_ := Aside0.mk ((by rw [hg]; exact (below_size (by repeat (first | (with_reducible first | exact HB.out | apply below_alloc | apply pw_below_drewN | apply below_drew1) | exact HB.out))) : w.heap.size ≤ gb1170)); clear HB; have HB := n0_; have BK1170 := n1_; have GW1170 := n2_; have GE1170 := n3_; clear n0_ n1_ n2_ n3_; clear hb hbox hg) | ((with_reducible refine gate_dst (N := 8) rfl ?_); refine Kd.R_lit (Kd.int .u64) _ 62 ?hg (N := 8) ?hd (xs := ([IntKind.u64.wrap (wrap64 (-a0))] : List Int)) (inner := [.int .u64 (IntKind.u64.wrap (wrap64 (-a0)))]) (ok := fun _ => True) (okp := fun _ => True) ?hr ?hp (fun _ hk => hk) trivial (Below.refl _ _) (Nat.le_refl _) (by simp) ?_; (case hd => rfl); (case hg => rfl); (case hr => first | (go_simp; done) | (go_simp; rfl)); (case hp => exact (Reps.one (show Kd.M (Kd.int .u64) _ _ _ (IntKind.u64.wrap (wrap64 (-a0))) [.int .u64 (IntKind.u64.wrap (wrap64 (-a0)))] from rfl) (Reps.none _ _))); intro v1172 w6 ho7 hb hg_ hnew_; clear hg_ hnew_; (first | rw [← Ny1171.out] at ho7 | (simp only [Int.reduceToNat] at ho7; rw [← Ny1171.out] at ho7)); have n0_ := Aside0.mk (Kd.R_lower ho7 (below_size (by repeat (first | (with_reducible first | exact HB.out | apply below_alloc | apply pw_below_drewN | apply below_drew1 | refine below_set ?_ GE1170.out) | exact HB.out)))); have n1_ := Aside0.mk (blk_below (g := gb1170) (o := .cells zv 73 (0, 0)) (by (with_reducible repeat (first | refine blk_drewN ?_ _ | refine blk_drew ?_ | refine blk_alloc ?_ _)); exact BK1170.out) hb); have n2_ := Aside0.mk (below_step (by repeat (first | (with_reducible first | exact HB.out | apply below_alloc | apply pw_below_drewN | apply below_drew1 | refine below_set ?_ GE1170.out) | exact HB.out)) hb); clear BK1170; clear HB; have HO1173 := n0_; have BK1170 := n1_; have HB := n2_; clear n0_ n1_ n2_; clear hb ho7; obtain ⟨Ao8, co8, eo8⟩ := Kd.R_slice HO1173.out; subst eo8) | ((with_reducible refine gate_callee (f := 106) rfl ?_); refine goesL_ (some 9) rfl rfl Try.func106 (by kernel_rfl) rfl #[.slice Ao8 y1171.length co8] rfl (by (try simp only [List.map_toArray, List.map_cons, List.map_nil]); first | done | rfl | (simp only [List.length_drop, List.length_take]; rfl)) ?_; (with_reducible refine (scalar_reduce.calls k (fun k_ => some k_ = (.slice Ao8 y1171.length co8 : Value).ownBlock) _ _ y1171 t1174 _ ?side1 A3.out).mono ?_); (case side1 => exact Kd.R_V (Kd.R_tight rfl (Kd.R_types (HO1173.out) BK1170.out (by decide)))); rintro e w9 ⟨rfl, hb⟩; refine ⟨_, rfl, ?_⟩; have n0_ := Aside0.mk (Kd.R_below (by (with_reducible repeat (first | apply Kd.R_alloc | apply Kd.R_drewN | apply Kd.R_drew)); exact HO1173.out) hb); have n1_ := Aside0.mk (blk_below (g := gb1170) (o := .cells zv 73 (0, 0)) (by (with_reducible repeat (first | refine blk_drewN ?_ _ | refine blk_drew ?_ | refine blk_alloc ?_ _)); exact BK1170.out) hb); have n2_ := Aside0.mk (below_step (by repeat (first | (with_reducible first | exact HB.out | apply below_alloc | apply pw_below_drewN | apply below_drew1 | refine below_set ?_ GE1170.out) | exact HB.out)) hb); clear HO1173; clear BK1170; clear HB; have HO1173 := n0_; have BK1170 := n1_; have HB := n2_; clear n0_ n1_ n2_; (try clear hb); (try clear hb2); (try clear hk); (try clear hi)) | ((with_reducible refine gate_callee (f := 68) rfl ?_); refine goesL_ (some 10) rfl rfl Try.func68 (by kernel_rfl) rfl #[.agg (sv t1174)] rfl (by (try simp only [List.map_toArray, List.map_cons, List.map_nil]); first | done | rfl | (simp only [List.length_drop, List.length_take]; rfl)) ?_; (with_reducible refine (scalar_Neg.calls k t1174 t1175 _ A4.out).mono ?_); rintro e w10 ⟨rfl, hb⟩; refine ⟨_, rfl, ?_⟩; have n0_ := Aside0.mk (Kd.R_below (by (with_reducible repeat (first | apply Kd.R_alloc | apply Kd.R_drewN | apply Kd.R_drew)); exact HO1173.out) hb); have n1_ := Aside0.mk (blk_below (g := gb1170) (o := .cells zv 73 (0, 0)) (by (with_reducible repeat (first | refine blk_drewN ?_ _ | refine blk_drew ?_ | refine blk_alloc ?_ _)); exact BK1170.out) hb); have n2_ := Aside0.mk (below_step (by repeat (first | (with_reducible first | exact HB.out | apply below_alloc | apply pw_below_drewN | apply below_drew1 | refine below_set ?_ GE1170.out) | exact HB.out)) hb); clear HO1173; clear BK1170; clear HB; have HO1173 := n0_; have BK1170 := n1_; have HB := n2_; clear n0_ n1_ n2_; (try clear hb); (try clear hb2); (try clear hk); (try clear hi); obtain ⟨hcz11_0, hcz11_0_c1, hcz11_0_c2, hcz11_0_c3, hcz11_0_c4, hcz11_0_c5, hcz11_0_c6⟩ := c7_of (a := z7) BK1170.out rfl; obtain ⟨hfz11_0, hfz11_0_c1, hfz11_0_c2, hfz11_0_c3, hfz11_0_c4, hfz11_0_c5, hfz11_0_c6⟩ := fz7 BK1170.out))
    refine bodyPost_ret (results_cell_row rfl _ _ gb1170 73 (sv t1175) (0, 0) _ rfl (by (with_reducible repeat (first | refine blk_drewN ?_ _ | refine blk_drew ?_ | refine blk_alloc ?_ _)); refine blk_put7z ?_; (with_reducible repeat (first | refine blk_drewN ?_ _ | refine blk_drew ?_ | refine blk_alloc ?_ _)); exact BK1170.out) Try.underlying73 rfl (by kernel_rfl)) rfl ?_
    exact ⟨by first | rfl | (simp [errW_none, errW_some] <;> rfl) | (simp [*, errW_none, errW_some] <;> rfl), by repeat (first | (with_reducible first | exact HB.out | apply below_alloc | apply pw_below_drewN | apply below_drew1 | refine below_set ?_ GE1170.out) | exact HB.out)⟩
  · rw [if_neg c2] at H
    have c2b0 : decide (a0 < 0) = false := decide_eq_false c2
    clear c2
    obtain ⟨y1176, hy1176⟩ : ∃ y_ : List Int, y_ = (([IntKind.u64.wrap (a0)] : List Int)) := ⟨_, rfl⟩
    replace H : ((scalar_reduce.f k y1176).bind fun t1179 => (some t1179)) = some r := by first | (rw [hy1176]; with_reducible exact H) | (have H2_ := (Option.bind_some _ _).symm.trans H; rw [hy1176]; with_reducible exact H2_) | (have H2_ := (Option.bind_some _ _).symm.trans H; with_reducible exact H2_) | with_reducible exact H | (rw [hy1176]; exact H) | exact H
    have Ny1176 := Aside0.mk hy1176
    clear hy1176
    replace H := Option.bind_eq_some_iff.mp H
    obtain ⟨t1179, A120, H⟩ := H
    replace H : (some t1179) = some r := H
    have A12 := Aside0.mk A120
    clear A120
    obtain rfl := Option.some.inj H
    go_enter Try.func69, Try.ntmps69
    go_wp2_with (first | ((with_reducible refine gate_dst (N := 2) rfl ?_); refine box_event ?hg (N := 2) ?hd (cs := zv) (t := 73) ?hr ?_; (case hd => rfl); (case hg => rfl); (case hr => first | (go_simp; done) | (go_simp; rfl)); intro gb1170 hg w13 hbox hb; have n0_ := Aside0.mk (below_step (by repeat (first | (with_reducible first | exact HB.out | apply below_alloc | apply pw_below_drewN | apply below_drew1) | exact HB.out)) hb); have n1_ := Aside0.mk (hbox); have n2_ := Aside0.mk ((by rw [hg]; exact (below_size (by repeat (first | (with_reducible first | exact HB.out | apply below_alloc | apply pw_below_drewN | apply below_drew1) | exact HB.out))) : w.heap.size ≤ gb1170)); have n3_ := Aside0.mk ((by rw [hg]; exact (below_size (by repeat (first | (with_reducible first | exact HB.out | apply below_alloc | apply pw_below_drewN | apply below_drew1) | exact HB.out))) : w.heap.size ≤ gb1170)); clear HB; have HB := n0_; have BK1170 := n1_; have GW1170 := n2_; have GE1170 := n3_; clear n0_ n1_ n2_ n3_; clear hb hbox hg) | ((with_reducible refine gate_dst (N := 13) rfl ?_); refine Kd.R_lit (Kd.int .u64) _ 62 ?hg (N := 13) ?hd (xs := ([IntKind.u64.wrap (a0)] : List Int)) (inner := [.int .u64 (IntKind.u64.wrap (a0))]) (ok := fun _ => True) (okp := fun _ => True) ?hr ?hp (fun _ hk => hk) trivial (Below.refl _ _) (Nat.le_refl _) (by simp) ?_; (case hd => rfl); (case hg => rfl); (case hr => first | (go_simp; done) | (go_simp; rfl)); (case hp => exact (Reps.one (show Kd.M (Kd.int .u64) _ _ _ (IntKind.u64.wrap (a0)) [.int .u64 (IntKind.u64.wrap (a0))] from rfl) (Reps.none _ _))); intro v1177 w14 ho15 hb hg_ hnew_; clear hg_ hnew_; (first | rw [← Ny1176.out] at ho15 | (simp only [Int.reduceToNat] at ho15; rw [← Ny1176.out] at ho15)); have n0_ := Aside0.mk (Kd.R_lower ho15 (below_size (by repeat (first | (with_reducible first | exact HB.out | apply below_alloc | apply pw_below_drewN | apply below_drew1 | refine below_set ?_ GE1170.out) | exact HB.out)))); have n1_ := Aside0.mk (blk_below (g := gb1170) (o := .cells zv 73 (0, 0)) (by (with_reducible repeat (first | refine blk_drewN ?_ _ | refine blk_drew ?_ | refine blk_alloc ?_ _)); exact BK1170.out) hb); have n2_ := Aside0.mk (below_step (by repeat (first | (with_reducible first | exact HB.out | apply below_alloc | apply pw_below_drewN | apply below_drew1 | refine below_set ?_ GE1170.out) | exact HB.out)) hb); clear BK1170; clear HB; have HO1178 := n0_; have BK1170 := n1_; have HB := n2_; clear n0_ n1_ n2_; clear hb ho15; obtain ⟨Ao16, co16, eo16⟩ := Kd.R_slice HO1178.out; subst eo16) | ((with_reducible refine gate_callee (f := 106) rfl ?_); refine goesL_ (some 14) rfl rfl Try.func106 (by kernel_rfl) rfl #[.slice Ao16 y1176.length co16] rfl (by (try simp only [List.map_toArray, List.map_cons, List.map_nil]); first | done | rfl | (simp only [List.length_drop, List.length_take]; rfl)) ?_; (with_reducible refine (scalar_reduce.calls k (fun k_ => some k_ = (.slice Ao16 y1176.length co16 : Value).ownBlock) _ _ y1176 t1179 _ ?side1 A12.out).mono ?_); (case side1 => exact Kd.R_V (Kd.R_tight rfl (Kd.R_types (HO1178.out) BK1170.out (by decide)))); rintro e w17 ⟨rfl, hb⟩; refine ⟨_, rfl, ?_⟩; have n0_ := Aside0.mk (Kd.R_below (by (with_reducible repeat (first | apply Kd.R_alloc | apply Kd.R_drewN | apply Kd.R_drew)); exact HO1178.out) hb); have n1_ := Aside0.mk (blk_below (g := gb1170) (o := .cells zv 73 (0, 0)) (by (with_reducible repeat (first | refine blk_drewN ?_ _ | refine blk_drew ?_ | refine blk_alloc ?_ _)); exact BK1170.out) hb); have n2_ := Aside0.mk (below_step (by repeat (first | (with_reducible first | exact HB.out | apply below_alloc | apply pw_below_drewN | apply below_drew1 | refine below_set ?_ GE1170.out) | exact HB.out)) hb); clear HO1178; clear BK1170; clear HB; have HO1178 := n0_; have BK1170 := n1_; have HB := n2_; clear n0_ n1_ n2_; (try clear hb); (try clear hb2); (try clear hk); (try clear hi); obtain ⟨hcz18_0, hcz18_0_c1, hcz18_0_c2, hcz18_0_c3, hcz18_0_c4, hcz18_0_c5, hcz18_0_c6⟩ := c7_of (a := z7) BK1170.out rfl; obtain ⟨hfz18_0, hfz18_0_c1, hfz18_0_c2, hfz18_0_c3, hfz18_0_c4, hfz18_0_c5, hfz18_0_c6⟩ := fz7 BK1170.out))
    refine bodyPost_ret (results_cell_row rfl _ _ gb1170 73 (sv t1179) (0, 0) _ rfl (by (with_reducible repeat (first | refine blk_drewN ?_ _ | refine blk_drew ?_ | refine blk_alloc ?_ _)); refine blk_put7z ?_; (with_reducible repeat (first | refine blk_drewN ?_ _ | refine blk_drew ?_ | refine blk_alloc ?_ _)); exact BK1170.out) Try.underlying73 rfl (by kernel_rfl)) rfl ?_
    exact ⟨by first | rfl | (simp [errW_none, errW_some] <;> rfl) | (simp [*, errW_none, errW_some] <;> rfl), by repeat (first | (with_reducible first | exact HB.out | apply below_alloc | apply pw_below_drewN | apply below_drew1 | refine below_set ?_ GE1170.out) | exact HB.out)⟩
end Go.Proofs.Ytdaehflffecllaa.N
namespace Go.Proofs.Ytdaehflffecllaa.N
open Go.RowKit Go.Proofs.YtdaehflffecllaaW.PrintWords Go.Proofs.YtdaehflffecllaaW.PrintLast Go.Proofs.YtdaehflffecllaaW.PrintMore
attribute [local go_sem] max2_int min2_int max_two min_two max_three min_three max_four min_four   -- for this text's walks alone
set_option linter.unusedVariables false
set_option linter.unusedSimpArgs false
def chicoryref06_Int.l0 : Nat → Int → List Int → Int → Int → Option (List Int)
  | 0, _, _, _, _ => none
  | k + 1, x0, x3, x4, x5 => if x5 < 8 then (if (Int.tmod x4 256) < 0 then (if x3.length < 140737488355328 then (chicoryref06_Int.l0 k x0 (x3 ++ [(wrap64 (-(Int.tmod x4 256))) % 256]) (wrap64 (Int.tdiv x4 256)) (wrap64 (x5 + 1))) else (none)) else (if x3.length < 140737488355328 then (chicoryref06_Int.l0 k x0 (x3 ++ [(Int.tmod x4 256) % 256]) (wrap64 (Int.tdiv x4 256)) (wrap64 (x5 + 1))) else (none))) else (if x0 < 0 then ((chicoryref06_Reduce.f k x3).bind fun t1186 => ((chicoryref06_Neg.f k t1186).bind fun t1189 => (some t1189))) else ((chicoryref06_Reduce.f k x3).bind fun t1192 => (some t1192)))
def chicoryref06_Int.f (k : Nat) (a0 : Int) : Option (List Int) := chicoryref06_Int.l0 k a0 ([] : List Int) a0 0
set_option maxHeartbeats 8000000 in
set_option maxRecDepth 100000 in
theorem chicoryref06_Int.calls (k : Nat) (a0 : Int) (r : List Int) (w : World) (h : chicoryref06_Int.f k a0 = some r) :
    Calls Try.prog 70 #[.int .i64 a0] w fun e w' => ∃ v0_ : Value, e = .returned (v0_) ∧ Kd.V (Kd.int .u8) 5 w' w.heap.size (fun k_ => (w.heap.size ≤ k_)) v0_ r ∧ Below w.heap.size w w' := by
  have HB := Aside0.mk (Below.refl w.heap.size w)
  have H : (chicoryref06_Int.l0 k a0 ([] : List Int) a0 0) = some r := h
  clear h
  have H' := Aside0.mk H
  clear H
  go_enter Try.func70, Try.ntmps70
  go_wp2
  go_loopg [3, 4, 5] k (fun kq v3 v4 v5 w' => ∃ (x3_1 : List Int) (x4_1 : Int) (x5_1 : Int), v4 = .int .i64 x4_1 ∧ v5 = .int .i64 x5_1 ∧ Aside0 (chicoryref06_Int.l0 kq a0 x3_1 x4_1 x5_1 = some r) ∧ Aside0 (kq ≤ k) ∧ Aside0 (Kd.R (Kd.int .u8) 5 w' w.heap.size (fun k_ => (w.heap.size ≤ k_)) v3 x3_1) ∧ Aside0 (Below w.heap.size w w'))
  case atStart => exact ⟨(([] : List Int)), (a0), (0), (by first | rfl | (simp; done) | (simp [*]; done)), (by first | rfl | (simp; done) | (simp [*]; done)), H', ⟨Nat.le_refl _⟩, ⟨by first | exact Kd.R_nil _ _ _ _ _ | exact Kd.N_nil _ _ _ _ _ | exact Kd.V_nil _ _ _ _ _ | exact Kd.Q_nil _ _ _ _ _ | exact Kd.S_nil _ _ _ _ _⟩, ⟨by repeat (first | (with_reducible first | exact HB.out | apply below_alloc | apply pw_below_drewN | apply below_drew1) | exact HB.out)⟩⟩
  case round =>
    clear H'
    obtain ⟨x3_1, x4_1, x5_1, rfl, rfl, HA, HK1, HO_3, HB⟩ := hrel
    cases gk with
    | zero => exact absurd HA.out (by simp [chicoryref06_Int.l0])
    | succ k1 =>
      have H := HA.out
      clear HA
      simp only [chicoryref06_Int.l0] at H
      by_cases c2 : x5_1 < 8
      · rw [if_pos c2] at H
        have c2b0 : decide (x5_1 < 8) = true := decide_eq_true c2
        clear c2
        by_cases c3 : (Int.tmod x4_1 256) < 0
        · rw [if_pos c3] at H
          have c3b0 : decide ((Int.tmod x4_1 256) < 0) = true := decide_eq_true c3
          clear c3
          by_cases c4 : x3_1.length < 140737488355328
          · rw [if_pos c4] at H
            have LMc4 := Aside0.mk c4
            clear c4
            obtain ⟨y1180, hy1180⟩ : ∃ y_ : List Int, y_ = (x3_1 ++ [(wrap64 (-(Int.tmod x4_1 256))) % 256]) := ⟨_, rfl⟩
            replace H : (chicoryref06_Int.l0 k1 a0 y1180 (wrap64 (Int.tdiv x4_1 256)) (wrap64 (x5_1 + 1))) = some r := by first | (rw [hy1180]; with_reducible exact H) | (have H2_ := (Option.bind_some _ _).symm.trans H; rw [hy1180]; with_reducible exact H2_) | (have H2_ := (Option.bind_some _ _).symm.trans H; with_reducible exact H2_) | with_reducible exact H | (rw [hy1180]; exact H) | exact H
            have Ny1180 := Aside0.mk hy1180
            clear hy1180
            have H' := Aside0.mk H
            clear H
            go_wp2_with (first | ((with_reducible refine gate_builtin (b := .append) (xs := #[.tmp 18, .tmp 21]) rfl ?_); at_builtin; refine Kd.R_append (Kd.int .u8) (w0 := w) w.heap.size rfl (.tmp 18) (.tmp 21) 22 5 (.int .u8 0) 1 rfl Try.underlying22 info5 rfl (by decide) (by omega) u3 x3_1 ((wrap64 (-(Int.tmod x4_1 256))) % 256) [.int .u8 ((wrap64 (-(Int.tmod x4_1 256))) % 256)] (fun k_ => (w.heap.size ≤ k_)) (fun _ => False) rfl rfl ?aP (fun _ hk => hk.elim) ?aF ?aO ?aB ?aS ?aL ?_; (case aP => exact rfl); (case aB => exact (by repeat (first | (with_reducible first | exact HB.out | apply below_alloc | apply pw_below_drewN | apply below_drew1) | exact HB.out))); (case aF => exact (fun k_ hk => (Nat.le_trans (below_size (by repeat (first | (with_reducible first | exact HB.out | apply below_alloc | apply pw_below_drewN | apply below_drew1) | exact HB.out))) hk))); (case aO => exact (by (with_reducible repeat (first | apply Kd.R_alloc | apply Kd.R_drewN | apply Kd.R_drew)); exact HO_3.out)); (case aS => exact (below_size (by repeat (first | (with_reducible first | exact HB.out | apply below_alloc | apply pw_below_drewN | apply below_drew1) | exact HB.out)))); (case aL => have := LMc4.out; omega); intro v1181 w5 ho hb hg hat; rw [← Ny1180.out] at ho; have n0_ := Aside0.mk (hb); have n1_ := Aside0.mk (ho); clear HB; clear HO_3; have HB := n0_; have HO1182 := n1_; clear n0_ n1_; clear ho hb hg hat))
            go_roundg k1
            case measure => have := HK1.out; omega
            case rel => exact ⟨(y1180), (wrap64 (Int.tdiv x4_1 256)), (wrap64 (x5_1 + 1)), (by first | rfl | (simp; done) | (simp [*]; done)), (by first | rfl | (simp; done) | (simp [*]; done)), H', ⟨by have := HK1.out; omega⟩, ⟨by (with_reducible repeat (first | apply Kd.R_alloc | apply Kd.R_drewN | apply Kd.R_drew)); exact HO1182.out⟩, ⟨by repeat (first | (with_reducible first | exact HB.out | apply below_alloc | apply pw_below_drewN | apply below_drew1) | exact HB.out)⟩⟩
          · rw [if_neg c4] at H
            exact absurd H (by simp)
        · rw [if_neg c3] at H
          have c3b0 : decide ((Int.tmod x4_1 256) < 0) = false := decide_eq_false c3
          clear c3
          by_cases c6 : x3_1.length < 140737488355328
          · rw [if_pos c6] at H
            have LMc6 := Aside0.mk c6
            clear c6
            obtain ⟨y1183, hy1183⟩ : ∃ y_ : List Int, y_ = (x3_1 ++ [(Int.tmod x4_1 256) % 256]) := ⟨_, rfl⟩
            replace H : (chicoryref06_Int.l0 k1 a0 y1183 (wrap64 (Int.tdiv x4_1 256)) (wrap64 (x5_1 + 1))) = some r := by first | (rw [hy1183]; with_reducible exact H) | (have H2_ := (Option.bind_some _ _).symm.trans H; rw [hy1183]; with_reducible exact H2_) | (have H2_ := (Option.bind_some _ _).symm.trans H; with_reducible exact H2_) | with_reducible exact H | (rw [hy1183]; exact H) | exact H
            have Ny1183 := Aside0.mk hy1183
            clear hy1183
            have H' := Aside0.mk H
            clear H
            go_wp2_with (first | ((with_reducible refine gate_builtin (b := .append) (xs := #[.tmp 18, .tmp 21]) rfl ?_); at_builtin; refine Kd.R_append (Kd.int .u8) (w0 := w) w.heap.size rfl (.tmp 18) (.tmp 21) 22 5 (.int .u8 0) 1 rfl Try.underlying22 info5 rfl (by decide) (by omega) u3 x3_1 ((Int.tmod x4_1 256) % 256) [.int .u8 ((Int.tmod x4_1 256) % 256)] (fun k_ => (w.heap.size ≤ k_)) (fun _ => False) rfl rfl ?aP (fun _ hk => hk.elim) ?aF ?aO ?aB ?aS ?aL ?_; (case aP => exact rfl); (case aB => exact (by repeat (first | (with_reducible first | exact HB.out | apply below_alloc | apply pw_below_drewN | apply below_drew1) | exact HB.out))); (case aF => exact (fun k_ hk => (Nat.le_trans (below_size (by repeat (first | (with_reducible first | exact HB.out | apply below_alloc | apply pw_below_drewN | apply below_drew1) | exact HB.out))) hk))); (case aO => exact (by (with_reducible repeat (first | apply Kd.R_alloc | apply Kd.R_drewN | apply Kd.R_drew)); exact HO_3.out)); (case aS => exact (below_size (by repeat (first | (with_reducible first | exact HB.out | apply below_alloc | apply pw_below_drewN | apply below_drew1) | exact HB.out)))); (case aL => have := LMc6.out; omega); intro v1184 w7 ho hb hg hat; rw [← Ny1183.out] at ho; have n0_ := Aside0.mk (hb); have n1_ := Aside0.mk (ho); clear HB; clear HO_3; have HB := n0_; have HO1185 := n1_; clear n0_ n1_; clear ho hb hg hat))
            go_roundg k1
            case measure => have := HK1.out; omega
            case rel => exact ⟨(y1183), (wrap64 (Int.tdiv x4_1 256)), (wrap64 (x5_1 + 1)), (by first | rfl | (simp; done) | (simp [*]; done)), (by first | rfl | (simp; done) | (simp [*]; done)), H', ⟨by have := HK1.out; omega⟩, ⟨by (with_reducible repeat (first | apply Kd.R_alloc | apply Kd.R_drewN | apply Kd.R_drew)); exact HO1185.out⟩, ⟨by repeat (first | (with_reducible first | exact HB.out | apply below_alloc | apply pw_below_drewN | apply below_drew1) | exact HB.out)⟩⟩
          · rw [if_neg c6] at H
            exact absurd H (by simp)
      · rw [if_neg c2] at H
        have c2b0 : decide (x5_1 < 8) = false := decide_eq_false c2
        clear c2
        by_cases c8 : a0 < 0
        · rw [if_pos c8] at H
          have c8b0 : decide (a0 < 0) = true := decide_eq_true c8
          clear c8
          replace H := Option.bind_eq_some_iff.mp H
          obtain ⟨t1186, A90, H⟩ := H
          replace H : ((chicoryref06_Neg.f k1 t1186).bind fun t1189 => (some t1189)) = some r := H
          have A9 := Aside0.mk A90
          clear A90
          replace H := Option.bind_eq_some_iff.mp H
          obtain ⟨t1189, A100, H⟩ := H
          replace H : (some t1189) = some r := H
          have A10 := Aside0.mk A100
          clear A100
          obtain rfl := Option.some.inj H
          obtain ⟨Ao11, co11, eo11⟩ := Kd.R_slice HO_3.out
          subst eo11
          go_wp2_with (first | ((with_reducible refine gate_callee (f := 86) rfl ?_); refine goesL_ (some 28) rfl rfl Try.func86 (by kernel_rfl) rfl #[.slice Ao11 x3_1.length co11] rfl (by (try simp only [List.map_toArray, List.map_cons, List.map_nil]); first | done | rfl | (simp only [List.length_drop, List.length_take]; rfl)) ?_; (with_reducible refine (chicoryref06_Reduce.calls k1 (fun k_ => some k_ = (.slice Ao11 x3_1.length co11 : Value).ownBlock) _ _ x3_1 t1186 _ ?side1 A9.out).mono ?_); (case side1 => exact Kd.R_V (Kd.R_tight rfl (HO_3.out))); rintro e w12 ⟨v1187, rfl, ho0, hb⟩; refine ⟨_, rfl, ?_⟩; have n0_ := Aside0.mk (Kd.R_below (by (with_reducible repeat (first | apply Kd.R_alloc | apply Kd.R_drewN | apply Kd.R_drew)); exact HO_3.out) hb); have n1_ := Aside0.mk (Kd.V_lower (Kd.V_mono (ok' := fun k_ => (w.heap.size ≤ k_)) ho0 (fun k_ hk_ => Or.elim hk_ (fun hs_ => ((HO_3.out).1 k_ hs_.symm)) (fun hn_ => (Nat.le_trans (below_size (by repeat (first | (with_reducible first | exact HB.out | apply below_alloc | apply pw_below_drewN | apply below_drew1) | exact HB.out))) hn_)))) (below_size (by repeat (first | (with_reducible first | exact HB.out | apply below_alloc | apply pw_below_drewN | apply below_drew1) | exact HB.out)))); have n2_ := Aside0.mk (below_step (by repeat (first | (with_reducible first | exact HB.out | apply below_alloc | apply pw_below_drewN | apply below_drew1) | exact HB.out)) hb); clear HO_3; clear HB; have HO_3 := n0_; have HO1188 := n1_; have HB := n2_; clear n0_ n1_ n2_; (try clear hb); (try clear hb2); (try clear hk); (try clear hi); (try clear ho0); obtain ⟨Ao13, co13, eo13⟩ := Kd.V_slice HO1188.out; subst eo13) | ((with_reducible refine gate_callee (f := 67) rfl ?_); refine goesL_ (some 29) rfl rfl Try.func67 (by kernel_rfl) rfl #[.slice Ao13 t1186.length co13] rfl (by (try simp only [List.map_toArray, List.map_cons, List.map_nil]); first | done | rfl | (simp only [List.length_drop, List.length_take]; rfl)) ?_; (with_reducible refine (chicoryref06_Neg.calls k1 _ _ t1186 t1189 _ ?side1 ?side2 A10.out).mono ?_); (case side1 => repeat (first | exact (Kd.V_reads' HO1188.out).2.2 | (with_reducible refine Kd.C_alloc ?_ _) | (with_reducible refine Kd.C_drewN ?_ _) | (with_reducible refine Kd.C_drew ?_))); (case side2 => exact (Kd.V_reads' HO1188.out).2.1); rintro e w14 ⟨v1190, rfl, ho0, hb⟩; refine ⟨_, rfl, ?_⟩; have n0_ := Aside0.mk (Kd.R_below (by (with_reducible repeat (first | apply Kd.R_alloc | apply Kd.R_drewN | apply Kd.R_drew)); exact HO_3.out) hb); have n1_ := Aside0.mk (Kd.V_below (by (with_reducible repeat (first | apply Kd.V_alloc | apply Kd.V_drewN | apply Kd.V_drew)); exact HO1188.out) hb); have n2_ := Aside0.mk (Kd.V_lower (Kd.V_mono (ok' := fun k_ => (w.heap.size ≤ k_) ∧ some k_ ≠ (.slice Ao11 x3_1.length co11 : Value).ownBlock) ho0 (fun k_ hk_ => ⟨(Nat.le_trans (below_size (by repeat (first | (with_reducible first | exact HB.out | apply below_alloc | apply pw_below_drewN | apply below_drew1) | exact HB.out))) hk_), (Kd.fresh' (Kd.R_lt (by (with_reducible repeat (first | apply Kd.R_alloc | apply Kd.R_drewN | apply Kd.R_drew)); exact HO_3.out)) k_ hk_)⟩)) (below_size (by repeat (first | (with_reducible first | exact HB.out | apply below_alloc | apply pw_below_drewN | apply below_drew1) | exact HB.out)))); have n3_ := Aside0.mk (below_step (by repeat (first | (with_reducible first | exact HB.out | apply below_alloc | apply pw_below_drewN | apply below_drew1) | exact HB.out)) hb); clear HO_3; clear HO1188; clear HB; have HO_3 := n0_; have HO1188 := n1_; have HO1191 := n2_; have HB := n3_; clear n0_ n1_ n2_ n3_; (try clear hb); (try clear hb2); (try clear hk); (try clear hi); (try clear ho0)))
          go_ret
          exact ⟨_, by first | rfl | (simp [errW_none, errW_some] <;> rfl) | (simp [*, errW_none, errW_some] <;> rfl), by (with_reducible repeat (first | apply Kd.V_alloc | apply Kd.V_drewN | apply Kd.V_drew)); exact Kd.V_mono HO1191.out (fun _ hk => hk.1), by repeat (first | (with_reducible first | exact HB.out | apply below_alloc | apply pw_below_drewN | apply below_drew1) | exact HB.out)⟩
        · rw [if_neg c8] at H
          have c8b0 : decide (a0 < 0) = false := decide_eq_false c8
          clear c8
          replace H := Option.bind_eq_some_iff.mp H
          obtain ⟨t1192, A150, H⟩ := H
          replace H : (some t1192) = some r := H
          have A15 := Aside0.mk A150
          clear A150
          obtain rfl := Option.some.inj H
          obtain ⟨Ao16, co16, eo16⟩ := Kd.R_slice HO_3.out
          subst eo16
          go_wp2_with (first | ((with_reducible refine gate_callee (f := 86) rfl ?_); refine goesL_ (some 31) rfl rfl Try.func86 (by kernel_rfl) rfl #[.slice Ao16 x3_1.length co16] rfl (by (try simp only [List.map_toArray, List.map_cons, List.map_nil]); first | done | rfl | (simp only [List.length_drop, List.length_take]; rfl)) ?_; (with_reducible refine (chicoryref06_Reduce.calls k1 (fun k_ => some k_ = (.slice Ao16 x3_1.length co16 : Value).ownBlock) _ _ x3_1 t1192 _ ?side1 A15.out).mono ?_); (case side1 => exact Kd.R_V (Kd.R_tight rfl (HO_3.out))); rintro e w17 ⟨v1193, rfl, ho0, hb⟩; refine ⟨_, rfl, ?_⟩; have n0_ := Aside0.mk (Kd.R_below (by (with_reducible repeat (first | apply Kd.R_alloc | apply Kd.R_drewN | apply Kd.R_drew)); exact HO_3.out) hb); have n1_ := Aside0.mk (Kd.V_lower (Kd.V_mono (ok' := fun k_ => (w.heap.size ≤ k_)) ho0 (fun k_ hk_ => Or.elim hk_ (fun hs_ => ((HO_3.out).1 k_ hs_.symm)) (fun hn_ => (Nat.le_trans (below_size (by repeat (first | (with_reducible first | exact HB.out | apply below_alloc | apply pw_below_drewN | apply below_drew1) | exact HB.out))) hn_)))) (below_size (by repeat (first | (with_reducible first | exact HB.out | apply below_alloc | apply pw_below_drewN | apply below_drew1) | exact HB.out)))); have n2_ := Aside0.mk (below_step (by repeat (first | (with_reducible first | exact HB.out | apply below_alloc | apply pw_below_drewN | apply below_drew1) | exact HB.out)) hb); clear HO_3; clear HB; have HO_3 := n0_; have HO1194 := n1_; have HB := n2_; clear n0_ n1_ n2_; (try clear hb); (try clear hb2); (try clear hk); (try clear hi); (try clear ho0)))
          go_ret
          exact ⟨_, by first | rfl | (simp [errW_none, errW_some] <;> rfl) | (simp [*, errW_none, errW_some] <;> rfl), by (with_reducible repeat (first | apply Kd.V_alloc | apply Kd.V_drewN | apply Kd.V_drew)); exact HO1194.out, by repeat (first | (with_reducible first | exact HB.out | apply below_alloc | apply pw_below_drewN | apply below_drew1) | exact HB.out)⟩
def scalar_Half.f (k : Nat) (a0_0 : List Int) : Option (List Int) := (scalar_Scalar_nat.f a0_0).bind fun t1197 => ((number_Bit.f t1197 0).bind fun t1200 => (if t1200 = 1 then ((scalar_order.f k).bind fun t1201 => ((number_Add.f k t1197 t1201).bind fun t1204 => ((number_Shift.f k t1204 (-1)).bind fun bt1207 => ((scalar_reduce.f k bt1207.1).bind fun t1211 => (some t1211))))) else ((number_Shift.f k t1197 (-1)).bind fun bt1212 => ((scalar_reduce.f k bt1212.1).bind fun t1216 => (some t1216)))))
theorem scalar_Half.mono : ∀ a0 k, LeO (scalar_Half.f k a0) (scalar_Half.f (k + 1) a0) := by
  intro a0 k
  unfold scalar_Half.f
  repeat' first
      | (with_reducible exact number_Add.mono _ _ _)
      | (with_reducible exact number_Shift.mono _ _ _)
      | (with_reducible exact scalar_order.mono _)
      | (with_reducible exact scalar_reduce.mono _ _)
      | (with_reducible exact LeO.refl _)
      | (with_reducible exact LeO.none _)
      | (with_reducible refine LeO.ite ?_ ?_)
      | (with_reducible refine LeO.bind ?_ (fun _ => ?_))
      | exact number_Add.mono _ _ _
      | exact number_Shift.mono _ _ _
      | exact scalar_order.mono _
      | exact scalar_reduce.mono _ _
      | exact LeO.none _
      | refine LeO.ite ?_ ?_
      | refine LeO.bind ?_ (fun _ => ?_)
set_option maxHeartbeats 8000000 in
set_option maxRecDepth 100000 in
theorem scalar_Half.calls (k : Nat) (a0_0 : List Int) (r : List Int) (w : World) (h : scalar_Half.f k a0_0 = some r) :
    Calls Try.prog 74 #[.agg (sv a0_0)] w fun e w' => e = .returned (.agg (sv r)) ∧ Below w.heap.size w w' := by
  have hu73 := Try.underlying73
  have HB := Aside0.mk (Below.refl w.heap.size w)
  have H : ((scalar_Scalar_nat.f a0_0).bind fun t1197 => ((number_Bit.f t1197 0).bind fun t1200 => (if t1200 = 1 then ((scalar_order.f k).bind fun t1201 => ((number_Add.f k t1197 t1201).bind fun t1204 => ((number_Shift.f k t1204 (-1)).bind fun bt1207 => ((scalar_reduce.f k bt1207.1).bind fun t1211 => (some t1211))))) else ((number_Shift.f k t1197 (-1)).bind fun bt1212 => ((scalar_reduce.f k bt1212.1).bind fun t1216 => (some t1216)))))) = some r := h
  clear h
  replace H := Option.bind_eq_some_iff.mp H
  obtain ⟨t1197, A20, H⟩ := H
  replace H : ((number_Bit.f t1197 0).bind fun t1200 => (if t1200 = 1 then ((scalar_order.f k).bind fun t1201 => ((number_Add.f k t1197 t1201).bind fun t1204 => ((number_Shift.f k t1204 (-1)).bind fun bt1207 => ((scalar_reduce.f k bt1207.1).bind fun t1211 => (some t1211))))) else ((number_Shift.f k t1197 (-1)).bind fun bt1212 => ((scalar_reduce.f k bt1212.1).bind fun t1216 => (some t1216))))) = some r := H
  have A2 := Aside0.mk A20
  clear A20
  replace H := Option.bind_eq_some_iff.mp H
  obtain ⟨t1200, A30, H⟩ := H
  replace H : (if t1200 = 1 then ((scalar_order.f k).bind fun t1201 => ((number_Add.f k t1197 t1201).bind fun t1204 => ((number_Shift.f k t1204 (-1)).bind fun bt1207 => ((scalar_reduce.f k bt1207.1).bind fun t1211 => (some t1211))))) else ((number_Shift.f k t1197 (-1)).bind fun bt1212 => ((scalar_reduce.f k bt1212.1).bind fun t1216 => (some t1216)))) = some r := H
  have A3 := Aside0.mk A30
  clear A30
  by_cases c4 : t1200 = 1
  · rw [if_pos c4] at H
    have c4b0 : (t1200 == 1) = true := beq_iff_eq.mpr c4
    have c4b1 : (t1200 != 1) = false := bne_eq_false_iff_eq.mpr c4
    clear c4
    replace H := Option.bind_eq_some_iff.mp H
    obtain ⟨t1201, A50, H⟩ := H
    replace H : ((number_Add.f k t1197 t1201).bind fun t1204 => ((number_Shift.f k t1204 (-1)).bind fun bt1207 => ((scalar_reduce.f k bt1207.1).bind fun t1211 => (some t1211)))) = some r := H
    have A5 := Aside0.mk A50
    clear A50
    replace H := Option.bind_eq_some_iff.mp H
    obtain ⟨t1204, A60, H⟩ := H
    replace H : ((number_Shift.f k t1204 (-1)).bind fun bt1207 => ((scalar_reduce.f k bt1207.1).bind fun t1211 => (some t1211))) = some r := H
    have A6 := Aside0.mk A60
    clear A60
    replace H := Option.bind_eq_some_iff.mp H
    obtain ⟨⟨t1207, t1210⟩, A70, H⟩ := H
    replace H : ((scalar_reduce.f k t1207).bind fun t1211 => (some t1211)) = some r := H
    have A7 := Aside0.mk A70
    clear A70
    replace H := Option.bind_eq_some_iff.mp H
    obtain ⟨t1211, A80, H⟩ := H
    replace H : (some t1211) = some r := H
    have A8 := Aside0.mk A80
    clear A80
    obtain rfl := Option.some.inj H
    go_enter Try.func74, Try.ntmps74
    go_wp2_with (first | ((with_reducible refine gate_dst (N := 1) rfl ?_); refine box_event ?hg (N := 1) ?hd (cs := (sv a0_0)) (t := 73) ?hr ?_; (case hd => rfl); (case hg => rfl); (case hr => first | (go_simp; done) | (go_simp; rfl)); intro gb1195 hg w9 hbox hb; have n0_ := Aside0.mk (below_step (by repeat (first | (with_reducible first | exact HB.out | apply below_alloc | apply pw_below_drewN | apply below_drew1) | exact HB.out)) hb); have n1_ := Aside0.mk (hbox); have n2_ := Aside0.mk ((by rw [hg]; exact (below_size (by repeat (first | (with_reducible first | exact HB.out | apply below_alloc | apply pw_below_drewN | apply below_drew1) | exact HB.out))) : w.heap.size ≤ gb1195)); have n3_ := Aside0.mk ((by rw [hg]; exact (below_size (by repeat (first | (with_reducible first | exact HB.out | apply below_alloc | apply pw_below_drewN | apply below_drew1) | exact HB.out))) : w.heap.size ≤ gb1195)); clear HB; have HB := n0_; have BK1195 := n1_; have GW1195 := n2_; have GE1195 := n3_; clear n0_ n1_ n2_ n3_; clear hb hbox hg) | ((with_reducible refine gate_dst (N := 2) rfl ?_); refine box_event ?hg (N := 2) ?hd (cs := zv) (t := 73) ?hr ?_; (case hd => rfl); (case hg => rfl); (case hr => first | (go_simp; done) | (go_simp; rfl)); intro gb1196 hg w10 hbox hb; have n0_ := Aside0.mk (blk_below (g := gb1195) (o := .cells (sv a0_0) 73 (0, 0)) (by (with_reducible repeat (first | refine blk_drewN ?_ _ | refine blk_drew ?_ | refine blk_alloc ?_ _)); exact BK1195.out) hb); have n1_ := Aside0.mk (below_step (by repeat (first | (with_reducible first | exact HB.out | apply below_alloc | apply pw_below_drewN | apply below_drew1 | refine below_set ?_ GE1195.out) | exact HB.out)) hb); have n2_ := Aside0.mk (hbox); have n3_ := Aside0.mk ((by rw [hg]; exact (below_size (by repeat (first | (with_reducible first | exact HB.out | apply below_alloc | apply pw_below_drewN | apply below_drew1 | refine below_set ?_ GE1195.out) | exact HB.out))) : w.heap.size ≤ gb1196)); have n4_ := Aside0.mk ((by rw [hg]; exact (below_size (by repeat (first | (with_reducible first | exact HB.out | apply below_alloc | apply pw_below_drewN | apply below_drew1 | refine below_set ?_ GE1195.out) | exact HB.out))) : w.heap.size ≤ gb1196)); have n5_ := Aside0.mk ((by rw [hg]; exact Nat.ne_of_lt (blk_lt (g := gb1195) (o := .cells (sv a0_0) 73 (0, 0)) (by (with_reducible repeat (first | refine blk_drewN ?_ _ | refine blk_drew ?_ | refine blk_alloc ?_ _)); exact BK1195.out)) : gb1195 ≠ gb1196)); have n6_ := Aside0.mk ((by rw [hg]; exact Nat.ne_of_gt (blk_lt (g := gb1195) (o := .cells (sv a0_0) 73 (0, 0)) (by (with_reducible repeat (first | refine blk_drewN ?_ _ | refine blk_drew ?_ | refine blk_alloc ?_ _)); exact BK1195.out)) : gb1196 ≠ gb1195)); clear BK1195; clear HB; have BK1195 := n0_; have HB := n1_; have BK1196 := n2_; have GW1196 := n3_; have GE1196 := n4_; have NB1195_1196 := n5_; have NB1196_1195 := n6_; clear n0_ n1_ n2_ n3_ n4_ n5_ n6_; clear hb hbox hg; have hnb11 := NB1195_1196.out; have hnc11 := NB1196_1195.out; obtain ⟨hcz12_0, hcz12_0_c1, hcz12_0_c2, hcz12_0_c3, hcz12_0_c4, hcz12_0_c5, hcz12_0_c6⟩ := c7_of (a := a0_0) BK1195.out rfl; obtain ⟨hfz12_0, hfz12_0_c1, hfz12_0_c2, hfz12_0_c3, hfz12_0_c4, hfz12_0_c5, hfz12_0_c6⟩ := fz7 BK1195.out) | ((with_reducible refine gate_callee (f := 107) rfl ?_); refine goesL_ (some 5) rfl rfl Try.func107 (by kernel_rfl) rfl #[.agg (sv a0_0)] rfl (by (try simp only [List.map_toArray, List.map_cons, List.map_nil]); first | done | rfl | (simp only [List.length_drop, List.length_take]; rfl)) ?_; (with_reducible refine (scalar_Scalar_nat.calls a0_0 t1197 _ A2.out).mono ?_); rintro e w13 ⟨v1198, rfl, ho0, hb⟩; refine ⟨_, rfl, ?_⟩; have n0_ := Aside0.mk (Kd.R_lower ho0 (below_size (by repeat (first | (with_reducible first | exact HB.out | apply below_alloc | apply pw_below_drewN | apply below_drew1 | refine below_set ?_ GE1195.out | refine below_set ?_ GE1196.out) | exact HB.out)))); have n1_ := Aside0.mk (blk_below (g := gb1195) (o := .cells (sv a0_0) 73 (0, 0)) (by (with_reducible repeat (first | refine blk_drewN ?_ _ | refine blk_drew ?_ | refine blk_alloc ?_ _)); exact BK1195.out) hb); have n2_ := Aside0.mk (blk_below (g := gb1196) (o := .cells zv 73 (0, 0)) (by (with_reducible repeat (first | refine blk_drewN ?_ _ | refine blk_drew ?_ | refine blk_alloc ?_ _)); exact BK1196.out) hb); have n3_ := Aside0.mk (below_step (by repeat (first | (with_reducible first | exact HB.out | apply below_alloc | apply pw_below_drewN | apply below_drew1 | refine below_set ?_ GE1195.out | refine below_set ?_ GE1196.out) | exact HB.out)) hb); clear BK1195; clear BK1196; clear HB; have HO1199 := n0_; have BK1195 := n1_; have BK1196 := n2_; have HB := n3_; clear n0_ n1_ n2_ n3_; (try clear hb); (try clear hb2); (try clear hk); (try clear hi); (try clear ho0); obtain ⟨Ao14, co14, eo14⟩ := Kd.R_slice HO1199.out; subst eo14) | ((with_reducible refine gate_callee (f := 37) rfl ?_); refine goesL_ (some 7) rfl rfl Try.func37 (by kernel_rfl) rfl #[.slice Ao14 t1197.length co14, .int .i64 0] rfl (by (try simp only [List.map_toArray, List.map_cons, List.map_nil]); first | done | rfl | (simp only [List.length_drop, List.length_take]; rfl)) ?_; (with_reducible refine (number_Bit.calls _ _ t1197 0 t1200 _ ?side1 ?side2 A3.out).mono ?_); (case side1 => repeat (first | exact (Kd.R_reads' HO1199.out).2.2 | (with_reducible refine Kd.C_alloc ?_ _) | (with_reducible refine Kd.C_drewN ?_ _) | (with_reducible refine Kd.C_drew ?_))); (case side2 => exact (Kd.R_reads' HO1199.out).2.1); rintro e w' ⟨rfl, ⟨nd, rfl⟩⟩; refine ⟨_, rfl, ?_⟩; (try (rw [drewN_self w13]; generalize hq_ : World.drewN w13 _ = w13; have n0_ : Aside0 (Kd.R (Kd.int .u64) 62 w13 w.heap.size (fun _ => True) (.slice Ao14 t1197.length co14) t1197) := ⟨by rw [← hq_]; exact (by (with_reducible repeat (first | apply Kd.R_alloc | apply Kd.R_drewN | apply Kd.R_drew)); exact HO1199.out)⟩; have n1_ : Aside0 (w13.heap[gb1195]? = some (.cells (sv a0_0) 73 (0, 0))) := ⟨by rw [← hq_]; exact (by (with_reducible repeat (first | refine blk_drewN ?_ _ | refine blk_drew ?_ | refine blk_alloc ?_ _)); exact BK1195.out)⟩; have n2_ : Aside0 (w13.heap[gb1196]? = some (.cells zv 73 (0, 0))) := ⟨by rw [← hq_]; exact (by (with_reducible repeat (first | refine blk_drewN ?_ _ | refine blk_drew ?_ | refine blk_alloc ?_ _)); exact BK1196.out)⟩; have n3_ : Aside0 (Below w.heap.size w w13) := ⟨by rw [← hq_]; exact (by repeat (first | (with_reducible first | exact HB.out | apply below_alloc | apply pw_below_drewN | apply below_drew1 | refine below_set ?_ GE1195.out | refine below_set ?_ GE1196.out) | exact HB.out))⟩; clear HO1199 BK1195 BK1196 HB hq_; have HO1199 := n0_; have BK1195 := n1_; have BK1196 := n2_; have HB := n3_; clear n0_ n1_ n2_ n3_))) | ((with_reducible refine gate_callee (f := 108) rfl ?_); refine goesL_ (some 10) rfl rfl Try.func108 (by kernel_rfl) rfl #[] rfl (by (try simp only [List.map_toArray, List.map_cons, List.map_nil]); first | done | rfl | (simp only [List.length_drop, List.length_take]; rfl)) ?_; (with_reducible refine (scalar_order.calls k  t1201 _ A5.out).mono ?_); rintro e w15 ⟨v1202, rfl, ho0, hb⟩; refine ⟨_, rfl, ?_⟩; have n0_ := Aside0.mk (Kd.R_below (by (with_reducible repeat (first | apply Kd.R_alloc | apply Kd.R_drewN | apply Kd.R_drew)); exact HO1199.out) hb); have n1_ := Aside0.mk (Kd.V_lower (Kd.V_mono (ok' := fun k_ => some k_ ≠ (.slice Ao14 t1197.length co14 : Value).ownBlock ∧ k_ ≠ gb1195 ∧ k_ ≠ gb1196) ho0 (fun k_ hk_ => ⟨(Kd.fresh' (Kd.R_lt (by (with_reducible repeat (first | apply Kd.R_alloc | apply Kd.R_drewN | apply Kd.R_drew)); exact HO1199.out)) k_ hk_), (Kd.freshB (g := gb1195) (o := .cells (sv a0_0) 73 (0, 0)) (by (with_reducible repeat (first | refine blk_drewN ?_ _ | refine blk_drew ?_ | refine blk_alloc ?_ _)); exact BK1195.out) k_ hk_), (Kd.freshB (g := gb1196) (o := .cells zv 73 (0, 0)) (by (with_reducible repeat (first | refine blk_drewN ?_ _ | refine blk_drew ?_ | refine blk_alloc ?_ _)); exact BK1196.out) k_ hk_)⟩)) (below_size (by repeat (first | (with_reducible first | exact HB.out | apply below_alloc | apply pw_below_drewN | apply below_drew1 | refine below_set ?_ GE1195.out | refine below_set ?_ GE1196.out) | exact HB.out)))); have n2_ := Aside0.mk (blk_below (g := gb1195) (o := .cells (sv a0_0) 73 (0, 0)) (by (with_reducible repeat (first | refine blk_drewN ?_ _ | refine blk_drew ?_ | refine blk_alloc ?_ _)); exact BK1195.out) hb); have n3_ := Aside0.mk (blk_below (g := gb1196) (o := .cells zv 73 (0, 0)) (by (with_reducible repeat (first | refine blk_drewN ?_ _ | refine blk_drew ?_ | refine blk_alloc ?_ _)); exact BK1196.out) hb); have n4_ := Aside0.mk (below_step (by repeat (first | (with_reducible first | exact HB.out | apply below_alloc | apply pw_below_drewN | apply below_drew1 | refine below_set ?_ GE1195.out | refine below_set ?_ GE1196.out) | exact HB.out)) hb); clear HO1199; clear BK1195; clear BK1196; clear HB; have HO1199 := n0_; have HO1203 := n1_; have BK1195 := n2_; have BK1196 := n3_; have HB := n4_; clear n0_ n1_ n2_ n3_ n4_; (try clear hb); (try clear hb2); (try clear hk); (try clear hi); (try clear ho0); obtain ⟨Ao16, co16, eo16⟩ := Kd.V_slice HO1203.out; subst eo16) | ((with_reducible refine gate_callee (f := 48) rfl ?_); refine goesL_ (some 11) rfl rfl Try.func48 (by kernel_rfl) rfl #[.slice Ao14 t1197.length co14, .slice Ao16 t1201.length co16] rfl (by (try simp only [List.map_toArray, List.map_cons, List.map_nil]); first | done | rfl | (simp only [List.length_drop, List.length_take]; rfl)) ?_; (with_reducible refine (number_Add.calls k _ _ t1197 _ _ t1201 t1204 _ ?side1 ?side2 ?side3 ?side4 A6.out).mono ?_); (case side1 => repeat (first | exact (Kd.R_reads' HO1199.out).2.2 | (with_reducible refine Kd.C_alloc ?_ _) | (with_reducible refine Kd.C_drewN ?_ _) | (with_reducible refine Kd.C_drew ?_))); (case side2 => exact (Kd.R_reads' HO1199.out).2.1); (case side3 => repeat (first | exact (Kd.V_reads' HO1203.out).2.2 | (with_reducible refine Kd.C_alloc ?_ _) | (with_reducible refine Kd.C_drewN ?_ _) | (with_reducible refine Kd.C_drew ?_))); (case side4 => exact (Kd.V_reads' HO1203.out).2.1); rintro e w17 ⟨v1205, rfl, ho0, hb⟩; refine ⟨_, rfl, ?_⟩; have n0_ := Aside0.mk (Kd.R_below (by (with_reducible repeat (first | apply Kd.R_alloc | apply Kd.R_drewN | apply Kd.R_drew)); exact HO1199.out) hb); have n1_ := Aside0.mk (Kd.V_below (by (with_reducible repeat (first | apply Kd.V_alloc | apply Kd.V_drewN | apply Kd.V_drew)); exact HO1203.out) hb); have n2_ := Aside0.mk (Kd.V_lower (Kd.V_mono (ok' := fun k_ => some k_ ≠ (.slice Ao14 t1197.length co14 : Value).ownBlock ∧ k_ ≠ gb1195 ∧ k_ ≠ gb1196) ho0 (fun k_ hk_ => ⟨(Kd.fresh' (Kd.R_lt (by (with_reducible repeat (first | apply Kd.R_alloc | apply Kd.R_drewN | apply Kd.R_drew)); exact HO1199.out)) k_ hk_), (Kd.freshB (g := gb1195) (o := .cells (sv a0_0) 73 (0, 0)) (by (with_reducible repeat (first | refine blk_drewN ?_ _ | refine blk_drew ?_ | refine blk_alloc ?_ _)); exact BK1195.out) k_ hk_), (Kd.freshB (g := gb1196) (o := .cells zv 73 (0, 0)) (by (with_reducible repeat (first | refine blk_drewN ?_ _ | refine blk_drew ?_ | refine blk_alloc ?_ _)); exact BK1196.out) k_ hk_)⟩)) (below_size (by repeat (first | (with_reducible first | exact HB.out | apply below_alloc | apply pw_below_drewN | apply below_drew1 | refine below_set ?_ GE1195.out | refine below_set ?_ GE1196.out) | exact HB.out)))); have n3_ := Aside0.mk (blk_below (g := gb1195) (o := .cells (sv a0_0) 73 (0, 0)) (by (with_reducible repeat (first | refine blk_drewN ?_ _ | refine blk_drew ?_ | refine blk_alloc ?_ _)); exact BK1195.out) hb); have n4_ := Aside0.mk (blk_below (g := gb1196) (o := .cells zv 73 (0, 0)) (by (with_reducible repeat (first | refine blk_drewN ?_ _ | refine blk_drew ?_ | refine blk_alloc ?_ _)); exact BK1196.out) hb); have n5_ := Aside0.mk (below_step (by repeat (first | (with_reducible first | exact HB.out | apply below_alloc | apply pw_below_drewN | apply below_drew1 | refine below_set ?_ GE1195.out | refine below_set ?_ GE1196.out) | exact HB.out)) hb); clear HO1199; clear HO1203; clear BK1195; clear BK1196; clear HB; have HO1199 := n0_; have HO1203 := n1_; have HO1206 := n2_; have BK1195 := n3_; have BK1196 := n4_; have HB := n5_; clear n0_ n1_ n2_ n3_ n4_ n5_; (try clear hb); (try clear hb2); (try clear hk); (try clear hi); (try clear ho0); obtain ⟨Ao18, co18, eo18⟩ := Kd.V_slice HO1206.out; subst eo18) | ((with_reducible refine gate_callee (f := 57) rfl ?_); refine goesL_ (some 14) rfl rfl Try.func57 (by kernel_rfl) rfl #[.slice Ao18 t1204.length co18, .int .i64 (-1)] rfl (by (try simp only [List.map_toArray, List.map_cons, List.map_nil]); first | done | rfl | (simp only [List.length_drop, List.length_take]; rfl)) ?_; (with_reducible refine (number_Shift.calls k _ _ t1204 (-1) t1207 t1210 _ ?side1 ?side2 A7.out).mono ?_); (case side1 => repeat (first | exact (Kd.V_reads' HO1206.out).2.2 | (with_reducible refine Kd.C_alloc ?_ _) | (with_reducible refine Kd.C_drewN ?_ _) | (with_reducible refine Kd.C_drew ?_))); (case side2 => exact (Kd.V_reads' HO1206.out).2.1); rintro e w19 ⟨v1208, rfl, ho0, hb⟩; refine ⟨_, rfl, ?_⟩; have n0_ := Aside0.mk (Kd.R_below (by (with_reducible repeat (first | apply Kd.R_alloc | apply Kd.R_drewN | apply Kd.R_drew)); exact HO1199.out) hb); have n1_ := Aside0.mk (Kd.V_below (by (with_reducible repeat (first | apply Kd.V_alloc | apply Kd.V_drewN | apply Kd.V_drew)); exact HO1203.out) hb); have n2_ := Aside0.mk (Kd.V_below (by (with_reducible repeat (first | apply Kd.V_alloc | apply Kd.V_drewN | apply Kd.V_drew)); exact HO1206.out) hb); have n3_ := Aside0.mk (Kd.V_lower (Kd.V_mono (ok' := fun k_ => some k_ ≠ (.slice Ao14 t1197.length co14 : Value).ownBlock ∧ k_ ≠ gb1195 ∧ k_ ≠ gb1196) ho0 (fun k_ hk_ => ⟨(Kd.fresh' (Kd.R_lt (by (with_reducible repeat (first | apply Kd.R_alloc | apply Kd.R_drewN | apply Kd.R_drew)); exact HO1199.out)) k_ hk_), (Kd.freshB (g := gb1195) (o := .cells (sv a0_0) 73 (0, 0)) (by (with_reducible repeat (first | refine blk_drewN ?_ _ | refine blk_drew ?_ | refine blk_alloc ?_ _)); exact BK1195.out) k_ hk_), (Kd.freshB (g := gb1196) (o := .cells zv 73 (0, 0)) (by (with_reducible repeat (first | refine blk_drewN ?_ _ | refine blk_drew ?_ | refine blk_alloc ?_ _)); exact BK1196.out) k_ hk_)⟩)) (below_size (by repeat (first | (with_reducible first | exact HB.out | apply below_alloc | apply pw_below_drewN | apply below_drew1 | refine below_set ?_ GE1195.out | refine below_set ?_ GE1196.out) | exact HB.out)))); have n4_ := Aside0.mk (blk_below (g := gb1195) (o := .cells (sv a0_0) 73 (0, 0)) (by (with_reducible repeat (first | refine blk_drewN ?_ _ | refine blk_drew ?_ | refine blk_alloc ?_ _)); exact BK1195.out) hb); have n5_ := Aside0.mk (blk_below (g := gb1196) (o := .cells zv 73 (0, 0)) (by (with_reducible repeat (first | refine blk_drewN ?_ _ | refine blk_drew ?_ | refine blk_alloc ?_ _)); exact BK1196.out) hb); have n6_ := Aside0.mk (below_step (by repeat (first | (with_reducible first | exact HB.out | apply below_alloc | apply pw_below_drewN | apply below_drew1 | refine below_set ?_ GE1195.out | refine below_set ?_ GE1196.out) | exact HB.out)) hb); clear HO1199; clear HO1203; clear HO1206; clear BK1195; clear BK1196; clear HB; have HO1199 := n0_; have HO1203 := n1_; have HO1206 := n2_; have HO1209 := n3_; have BK1195 := n4_; have BK1196 := n5_; have HB := n6_; clear n0_ n1_ n2_ n3_ n4_ n5_ n6_; (try clear hb); (try clear hb2); (try clear hk); (try clear hi); (try clear ho0); obtain ⟨Ao20, co20, eo20⟩ := Kd.V_slice HO1209.out; subst eo20) | ((with_reducible refine gate_callee (f := 106) rfl ?_); refine goesL_ (some 18) rfl rfl Try.func106 (by kernel_rfl) rfl #[.slice Ao20 t1207.length co20] rfl (by (try simp only [List.map_toArray, List.map_cons, List.map_nil]); first | done | rfl | (simp only [List.length_drop, List.length_take]; rfl)) ?_; (with_reducible refine (scalar_reduce.calls k (fun k_ => (some k_ ≠ (.slice Ao14 t1197.length co14 : Value).ownBlock ∧ (k_ ≠ gb1195 ∧ k_ ≠ gb1196))) _ _ t1207 t1211 _ ?side1 A8.out).mono ?_); (case side1 => exact HO1209.out); rintro e w21 ⟨rfl, hb⟩; refine ⟨_, rfl, ?_⟩; have n0_ := Aside0.mk (Kd.R_below (by (with_reducible repeat (first | apply Kd.R_alloc | apply Kd.R_drewN | apply Kd.R_drew)); exact HO1199.out) hb); have n1_ := Aside0.mk (Kd.V_below (by (with_reducible repeat (first | apply Kd.V_alloc | apply Kd.V_drewN | apply Kd.V_drew)); exact HO1203.out) hb); have n2_ := Aside0.mk (Kd.V_below (by (with_reducible repeat (first | apply Kd.V_alloc | apply Kd.V_drewN | apply Kd.V_drew)); exact HO1206.out) hb); have n3_ := Aside0.mk (Kd.V_below (by (with_reducible repeat (first | apply Kd.V_alloc | apply Kd.V_drewN | apply Kd.V_drew)); exact HO1209.out) hb); have n4_ := Aside0.mk (blk_below (g := gb1195) (o := .cells (sv a0_0) 73 (0, 0)) (by (with_reducible repeat (first | refine blk_drewN ?_ _ | refine blk_drew ?_ | refine blk_alloc ?_ _)); exact BK1195.out) hb); have n5_ := Aside0.mk (blk_below (g := gb1196) (o := .cells zv 73 (0, 0)) (by (with_reducible repeat (first | refine blk_drewN ?_ _ | refine blk_drew ?_ | refine blk_alloc ?_ _)); exact BK1196.out) hb); have n6_ := Aside0.mk (below_step (by repeat (first | (with_reducible first | exact HB.out | apply below_alloc | apply pw_below_drewN | apply below_drew1 | refine below_set ?_ GE1195.out | refine below_set ?_ GE1196.out) | exact HB.out)) hb); clear HO1199; clear HO1203; clear HO1206; clear HO1209; clear BK1195; clear BK1196; clear HB; have HO1199 := n0_; have HO1203 := n1_; have HO1206 := n2_; have HO1209 := n3_; have BK1195 := n4_; have BK1196 := n5_; have HB := n6_; clear n0_ n1_ n2_ n3_ n4_ n5_ n6_; (try clear hb); (try clear hb2); (try clear hk); (try clear hi); obtain ⟨hcz22_0, hcz22_0_c1, hcz22_0_c2, hcz22_0_c3, hcz22_0_c4, hcz22_0_c5, hcz22_0_c6⟩ := c7_of (a := z7) BK1196.out rfl; obtain ⟨hfz22_0, hfz22_0_c1, hfz22_0_c2, hfz22_0_c3, hfz22_0_c4, hfz22_0_c5, hfz22_0_c6⟩ := fz7 BK1196.out))
    refine bodyPost_ret (results_cell_row rfl _ _ gb1196 73 (sv t1211) (0, 0) _ rfl (by (with_reducible repeat (first | refine blk_drewN ?_ _ | refine blk_drew ?_ | refine blk_alloc ?_ _)); refine blk_put7z ?_; (with_reducible repeat (first | refine blk_drewN ?_ _ | refine blk_drew ?_ | refine blk_alloc ?_ _)); exact BK1196.out) Try.underlying73 rfl (by kernel_rfl)) rfl ?_
    exact ⟨by first | rfl | (simp [errW_none, errW_some] <;> rfl) | (simp [*, errW_none, errW_some] <;> rfl), by repeat (first | (with_reducible first | exact HB.out | apply below_alloc | apply pw_below_drewN | apply below_drew1 | refine below_set ?_ GE1195.out | refine below_set ?_ GE1196.out) | exact HB.out)⟩
  · rw [if_neg c4] at H
    have c4b0 : (t1200 == 1) = false := beq_eq_false_iff_ne.mpr c4
    have c4b1 : (t1200 != 1) = true := bne_iff_ne.mpr c4
    replace H := Option.bind_eq_some_iff.mp H
    obtain ⟨⟨t1212, t1215⟩, A230, H⟩ := H
    replace H : ((scalar_reduce.f k t1212).bind fun t1216 => (some t1216)) = some r := H
    have A23 := Aside0.mk A230
    clear A230
    replace H := Option.bind_eq_some_iff.mp H
    obtain ⟨t1216, A240, H⟩ := H
    replace H : (some t1216) = some r := H
    have A24 := Aside0.mk A240
    clear A240
    obtain rfl := Option.some.inj H
    go_enter Try.func74, Try.ntmps74
    go_wp2_with (first | ((with_reducible refine gate_dst (N := 1) rfl ?_); refine box_event ?hg (N := 1) ?hd (cs := (sv a0_0)) (t := 73) ?hr ?_; (case hd => rfl); (case hg => rfl); (case hr => first | (go_simp; done) | (go_simp; rfl)); intro gb1195 hg w25 hbox hb; have n0_ := Aside0.mk (below_step (by repeat (first | (with_reducible first | exact HB.out | apply below_alloc | apply pw_below_drewN | apply below_drew1) | exact HB.out)) hb); have n1_ := Aside0.mk (hbox); have n2_ := Aside0.mk ((by rw [hg]; exact (below_size (by repeat (first | (with_reducible first | exact HB.out | apply below_alloc | apply pw_below_drewN | apply below_drew1) | exact HB.out))) : w.heap.size ≤ gb1195)); have n3_ := Aside0.mk ((by rw [hg]; exact (below_size (by repeat (first | (with_reducible first | exact HB.out | apply below_alloc | apply pw_below_drewN | apply below_drew1) | exact HB.out))) : w.heap.size ≤ gb1195)); clear HB; have HB := n0_; have BK1195 := n1_; have GW1195 := n2_; have GE1195 := n3_; clear n0_ n1_ n2_ n3_; clear hb hbox hg) | ((with_reducible refine gate_dst (N := 2) rfl ?_); refine box_event ?hg (N := 2) ?hd (cs := zv) (t := 73) ?hr ?_; (case hd => rfl); (case hg => rfl); (case hr => first | (go_simp; done) | (go_simp; rfl)); intro gb1196 hg w26 hbox hb; have n0_ := Aside0.mk (blk_below (g := gb1195) (o := .cells (sv a0_0) 73 (0, 0)) (by (with_reducible repeat (first | refine blk_drewN ?_ _ | refine blk_drew ?_ | refine blk_alloc ?_ _)); exact BK1195.out) hb); have n1_ := Aside0.mk (below_step (by repeat (first | (with_reducible first | exact HB.out | apply below_alloc | apply pw_below_drewN | apply below_drew1 | refine below_set ?_ GE1195.out) | exact HB.out)) hb); have n2_ := Aside0.mk (hbox); have n3_ := Aside0.mk ((by rw [hg]; exact (below_size (by repeat (first | (with_reducible first | exact HB.out | apply below_alloc | apply pw_below_drewN | apply below_drew1 | refine below_set ?_ GE1195.out) | exact HB.out))) : w.heap.size ≤ gb1196)); have n4_ := Aside0.mk ((by rw [hg]; exact (below_size (by repeat (first | (with_reducible first | exact HB.out | apply below_alloc | apply pw_below_drewN | apply below_drew1 | refine below_set ?_ GE1195.out) | exact HB.out))) : w.heap.size ≤ gb1196)); have n5_ := Aside0.mk ((by rw [hg]; exact Nat.ne_of_lt (blk_lt (g := gb1195) (o := .cells (sv a0_0) 73 (0, 0)) (by (with_reducible repeat (first | refine blk_drewN ?_ _ | refine blk_drew ?_ | refine blk_alloc ?_ _)); exact BK1195.out)) : gb1195 ≠ gb1196)); have n6_ := Aside0.mk ((by rw [hg]; exact Nat.ne_of_gt (blk_lt (g := gb1195) (o := .cells (sv a0_0) 73 (0, 0)) (by (with_reducible repeat (first | refine blk_drewN ?_ _ | refine blk_drew ?_ | refine blk_alloc ?_ _)); exact BK1195.out)) : gb1196 ≠ gb1195)); clear BK1195; clear HB; have BK1195 := n0_; have HB := n1_; have BK1196 := n2_; have GW1196 := n3_; have GE1196 := n4_; have NB1195_1196 := n5_; have NB1196_1195 := n6_; clear n0_ n1_ n2_ n3_ n4_ n5_ n6_; clear hb hbox hg; have hnb27 := NB1195_1196.out; have hnc27 := NB1196_1195.out; obtain ⟨hcz28_0, hcz28_0_c1, hcz28_0_c2, hcz28_0_c3, hcz28_0_c4, hcz28_0_c5, hcz28_0_c6⟩ := c7_of (a := a0_0) BK1195.out rfl; obtain ⟨hfz28_0, hfz28_0_c1, hfz28_0_c2, hfz28_0_c3, hfz28_0_c4, hfz28_0_c5, hfz28_0_c6⟩ := fz7 BK1195.out) | ((with_reducible refine gate_callee (f := 107) rfl ?_); refine goesL_ (some 5) rfl rfl Try.func107 (by kernel_rfl) rfl #[.agg (sv a0_0)] rfl (by (try simp only [List.map_toArray, List.map_cons, List.map_nil]); first | done | rfl | (simp only [List.length_drop, List.length_take]; rfl)) ?_; (with_reducible refine (scalar_Scalar_nat.calls a0_0 t1197 _ A2.out).mono ?_); rintro e w29 ⟨v1198, rfl, ho0, hb⟩; refine ⟨_, rfl, ?_⟩; have n0_ := Aside0.mk (Kd.R_lower ho0 (below_size (by repeat (first | (with_reducible first | exact HB.out | apply below_alloc | apply pw_below_drewN | apply below_drew1 | refine below_set ?_ GE1195.out | refine below_set ?_ GE1196.out) | exact HB.out)))); have n1_ := Aside0.mk (blk_below (g := gb1195) (o := .cells (sv a0_0) 73 (0, 0)) (by (with_reducible repeat (first | refine blk_drewN ?_ _ | refine blk_drew ?_ | refine blk_alloc ?_ _)); exact BK1195.out) hb); have n2_ := Aside0.mk (blk_below (g := gb1196) (o := .cells zv 73 (0, 0)) (by (with_reducible repeat (first | refine blk_drewN ?_ _ | refine blk_drew ?_ | refine blk_alloc ?_ _)); exact BK1196.out) hb); have n3_ := Aside0.mk (below_step (by repeat (first | (with_reducible first | exact HB.out | apply below_alloc | apply pw_below_drewN | apply below_drew1 | refine below_set ?_ GE1195.out | refine below_set ?_ GE1196.out) | exact HB.out)) hb); clear BK1195; clear BK1196; clear HB; have HO1199 := n0_; have BK1195 := n1_; have BK1196 := n2_; have HB := n3_; clear n0_ n1_ n2_ n3_; (try clear hb); (try clear hb2); (try clear hk); (try clear hi); (try clear ho0); obtain ⟨Ao30, co30, eo30⟩ := Kd.R_slice HO1199.out; subst eo30) | ((with_reducible refine gate_callee (f := 37) rfl ?_); refine goesL_ (some 7) rfl rfl Try.func37 (by kernel_rfl) rfl #[.slice Ao30 t1197.length co30, .int .i64 0] rfl (by (try simp only [List.map_toArray, List.map_cons, List.map_nil]); first | done | rfl | (simp only [List.length_drop, List.length_take]; rfl)) ?_; (with_reducible refine (number_Bit.calls _ _ t1197 0 t1200 _ ?side1 ?side2 A3.out).mono ?_); (case side1 => repeat (first | exact (Kd.R_reads' HO1199.out).2.2 | (with_reducible refine Kd.C_alloc ?_ _) | (with_reducible refine Kd.C_drewN ?_ _) | (with_reducible refine Kd.C_drew ?_))); (case side2 => exact (Kd.R_reads' HO1199.out).2.1); rintro e w' ⟨rfl, ⟨nd, rfl⟩⟩; refine ⟨_, rfl, ?_⟩; (try (rw [drewN_self w29]; generalize hq_ : World.drewN w29 _ = w29; have n0_ : Aside0 (Kd.R (Kd.int .u64) 62 w29 w.heap.size (fun _ => True) (.slice Ao30 t1197.length co30) t1197) := ⟨by rw [← hq_]; exact (by (with_reducible repeat (first | apply Kd.R_alloc | apply Kd.R_drewN | apply Kd.R_drew)); exact HO1199.out)⟩; have n1_ : Aside0 (w29.heap[gb1195]? = some (.cells (sv a0_0) 73 (0, 0))) := ⟨by rw [← hq_]; exact (by (with_reducible repeat (first | refine blk_drewN ?_ _ | refine blk_drew ?_ | refine blk_alloc ?_ _)); exact BK1195.out)⟩; have n2_ : Aside0 (w29.heap[gb1196]? = some (.cells zv 73 (0, 0))) := ⟨by rw [← hq_]; exact (by (with_reducible repeat (first | refine blk_drewN ?_ _ | refine blk_drew ?_ | refine blk_alloc ?_ _)); exact BK1196.out)⟩; have n3_ : Aside0 (Below w.heap.size w w29) := ⟨by rw [← hq_]; exact (by repeat (first | (with_reducible first | exact HB.out | apply below_alloc | apply pw_below_drewN | apply below_drew1 | refine below_set ?_ GE1195.out | refine below_set ?_ GE1196.out) | exact HB.out))⟩; clear HO1199 BK1195 BK1196 HB hq_; have HO1199 := n0_; have BK1195 := n1_; have BK1196 := n2_; have HB := n3_; clear n0_ n1_ n2_ n3_))) | ((with_reducible refine gate_callee (f := 57) rfl ?_); refine goesL_ (some 14) rfl rfl Try.func57 (by kernel_rfl) rfl #[.slice Ao30 t1197.length co30, .int .i64 (-1)] rfl (by (try simp only [List.map_toArray, List.map_cons, List.map_nil]); first | done | rfl | (simp only [List.length_drop, List.length_take]; rfl)) ?_; (with_reducible refine (number_Shift.calls k _ _ t1197 (-1) t1212 t1215 _ ?side1 ?side2 A23.out).mono ?_); (case side1 => repeat (first | exact (Kd.R_reads' HO1199.out).2.2 | (with_reducible refine Kd.C_alloc ?_ _) | (with_reducible refine Kd.C_drewN ?_ _) | (with_reducible refine Kd.C_drew ?_))); (case side2 => exact (Kd.R_reads' HO1199.out).2.1); rintro e w31 ⟨v1213, rfl, ho0, hb⟩; refine ⟨_, rfl, ?_⟩; have n0_ := Aside0.mk (Kd.R_below (by (with_reducible repeat (first | apply Kd.R_alloc | apply Kd.R_drewN | apply Kd.R_drew)); exact HO1199.out) hb); have n1_ := Aside0.mk (Kd.V_lower (Kd.V_mono (ok' := fun k_ => some k_ ≠ (.slice Ao30 t1197.length co30 : Value).ownBlock ∧ k_ ≠ gb1195 ∧ k_ ≠ gb1196) ho0 (fun k_ hk_ => ⟨(Kd.fresh' (Kd.R_lt (by (with_reducible repeat (first | apply Kd.R_alloc | apply Kd.R_drewN | apply Kd.R_drew)); exact HO1199.out)) k_ hk_), (Kd.freshB (g := gb1195) (o := .cells (sv a0_0) 73 (0, 0)) (by (with_reducible repeat (first | refine blk_drewN ?_ _ | refine blk_drew ?_ | refine blk_alloc ?_ _)); exact BK1195.out) k_ hk_), (Kd.freshB (g := gb1196) (o := .cells zv 73 (0, 0)) (by (with_reducible repeat (first | refine blk_drewN ?_ _ | refine blk_drew ?_ | refine blk_alloc ?_ _)); exact BK1196.out) k_ hk_)⟩)) (below_size (by repeat (first | (with_reducible first | exact HB.out | apply below_alloc | apply pw_below_drewN | apply below_drew1 | refine below_set ?_ GE1195.out | refine below_set ?_ GE1196.out) | exact HB.out)))); have n2_ := Aside0.mk (blk_below (g := gb1195) (o := .cells (sv a0_0) 73 (0, 0)) (by (with_reducible repeat (first | refine blk_drewN ?_ _ | refine blk_drew ?_ | refine blk_alloc ?_ _)); exact BK1195.out) hb); have n3_ := Aside0.mk (blk_below (g := gb1196) (o := .cells zv 73 (0, 0)) (by (with_reducible repeat (first | refine blk_drewN ?_ _ | refine blk_drew ?_ | refine blk_alloc ?_ _)); exact BK1196.out) hb); have n4_ := Aside0.mk (below_step (by repeat (first | (with_reducible first | exact HB.out | apply below_alloc | apply pw_below_drewN | apply below_drew1 | refine below_set ?_ GE1195.out | refine below_set ?_ GE1196.out) | exact HB.out)) hb); clear HO1199; clear BK1195; clear BK1196; clear HB; have HO1199 := n0_; have HO1214 := n1_; have BK1195 := n2_; have BK1196 := n3_; have HB := n4_; clear n0_ n1_ n2_ n3_ n4_; (try clear hb); (try clear hb2); (try clear hk); (try clear hi); (try clear ho0); obtain ⟨Ao32, co32, eo32⟩ := Kd.V_slice HO1214.out; subst eo32) | ((with_reducible refine gate_callee (f := 106) rfl ?_); refine goesL_ (some 18) rfl rfl Try.func106 (by kernel_rfl) rfl #[.slice Ao32 t1212.length co32] rfl (by (try simp only [List.map_toArray, List.map_cons, List.map_nil]); first | done | rfl | (simp only [List.length_drop, List.length_take]; rfl)) ?_; (with_reducible refine (scalar_reduce.calls k (fun k_ => (some k_ ≠ (.slice Ao30 t1197.length co30 : Value).ownBlock ∧ (k_ ≠ gb1195 ∧ k_ ≠ gb1196))) _ _ t1212 t1216 _ ?side1 A24.out).mono ?_); (case side1 => exact HO1214.out); rintro e w33 ⟨rfl, hb⟩; refine ⟨_, rfl, ?_⟩; have n0_ := Aside0.mk (Kd.R_below (by (with_reducible repeat (first | apply Kd.R_alloc | apply Kd.R_drewN | apply Kd.R_drew)); exact HO1199.out) hb); have n1_ := Aside0.mk (Kd.V_below (by (with_reducible repeat (first | apply Kd.V_alloc | apply Kd.V_drewN | apply Kd.V_drew)); exact HO1214.out) hb); have n2_ := Aside0.mk (blk_below (g := gb1195) (o := .cells (sv a0_0) 73 (0, 0)) (by (with_reducible repeat (first | refine blk_drewN ?_ _ | refine blk_drew ?_ | refine blk_alloc ?_ _)); exact BK1195.out) hb); have n3_ := Aside0.mk (blk_below (g := gb1196) (o := .cells zv 73 (0, 0)) (by (with_reducible repeat (first | refine blk_drewN ?_ _ | refine blk_drew ?_ | refine blk_alloc ?_ _)); exact BK1196.out) hb); have n4_ := Aside0.mk (below_step (by repeat (first | (with_reducible first | exact HB.out | apply below_alloc | apply pw_below_drewN | apply below_drew1 | refine below_set ?_ GE1195.out | refine below_set ?_ GE1196.out) | exact HB.out)) hb); clear HO1199; clear HO1214; clear BK1195; clear BK1196; clear HB; have HO1199 := n0_; have HO1214 := n1_; have BK1195 := n2_; have BK1196 := n3_; have HB := n4_; clear n0_ n1_ n2_ n3_ n4_; (try clear hb); (try clear hb2); (try clear hk); (try clear hi); obtain ⟨hcz34_0, hcz34_0_c1, hcz34_0_c2, hcz34_0_c3, hcz34_0_c4, hcz34_0_c5, hcz34_0_c6⟩ := c7_of (a := z7) BK1196.out rfl; obtain ⟨hfz34_0, hfz34_0_c1, hfz34_0_c2, hfz34_0_c3, hfz34_0_c4, hfz34_0_c5, hfz34_0_c6⟩ := fz7 BK1196.out))
    refine bodyPost_ret (results_cell_row rfl _ _ gb1196 73 (sv t1216) (0, 0) _ rfl (by (with_reducible repeat (first | refine blk_drewN ?_ _ | refine blk_drew ?_ | refine blk_alloc ?_ _)); refine blk_put7z ?_; (with_reducible repeat (first | refine blk_drewN ?_ _ | refine blk_drew ?_ | refine blk_alloc ?_ _)); exact BK1196.out) Try.underlying73 rfl (by kernel_rfl)) rfl ?_
    exact ⟨by first | rfl | (simp [errW_none, errW_some] <;> rfl) | (simp [*, errW_none, errW_some] <;> rfl), by repeat (first | (with_reducible first | exact HB.out | apply below_alloc | apply pw_below_drewN | apply below_drew1 | refine below_set ?_ GE1195.out | refine below_set ?_ GE1196.out) | exact HB.out)⟩
def scalar_Zero.f (k : Nat) (a0_0 : List Int) : Option (Bool) := (scalar_Scalar_nat.f a0_0).bind fun t1218 => ((number_Len.f k t1218).bind fun t1221 => (some (t1221 == 0)))
theorem scalar_Zero.mono : ∀ a0 k, LeO (scalar_Zero.f k a0) (scalar_Zero.f (k + 1) a0) := by
  intro a0 k
  unfold scalar_Zero.f
  repeat' first
      | (with_reducible exact number_Len.mono _ _)
      | (with_reducible exact LeO.refl _)
      | (with_reducible exact LeO.none _)
      | (with_reducible refine LeO.ite ?_ ?_)
      | (with_reducible refine LeO.bind ?_ (fun _ => ?_))
      | exact number_Len.mono _ _
      | exact LeO.none _
      | refine LeO.ite ?_ ?_
      | refine LeO.bind ?_ (fun _ => ?_)
set_option maxHeartbeats 8000000 in
set_option maxRecDepth 100000 in
theorem scalar_Zero.calls (k : Nat) (a0_0 : List Int) (r : Bool) (w : World) (h : scalar_Zero.f k a0_0 = some r) :
    Calls Try.prog 77 #[.agg (sv a0_0)] w fun e w' => e = .returned (.bool r) ∧ Below w.heap.size w w' := by
  have hu73 := Try.underlying73
  have HB := Aside0.mk (Below.refl w.heap.size w)
  have H : ((scalar_Scalar_nat.f a0_0).bind fun t1218 => ((number_Len.f k t1218).bind fun t1221 => (some (t1221 == 0)))) = some r := h
  clear h
  replace H := Option.bind_eq_some_iff.mp H
  obtain ⟨t1218, A20, H⟩ := H
  replace H : ((number_Len.f k t1218).bind fun t1221 => (some (t1221 == 0))) = some r := H
  have A2 := Aside0.mk A20
  clear A20
  replace H := Option.bind_eq_some_iff.mp H
  obtain ⟨t1221, A30, H⟩ := H
  replace H : (some (t1221 == 0)) = some r := H
  have A3 := Aside0.mk A30
  clear A30
  obtain rfl := Option.some.inj H
  go_enter Try.func77, Try.ntmps77
  go_wp2_with (first | ((with_reducible refine gate_dst (N := 1) rfl ?_); refine box_event ?hg (N := 1) ?hd (cs := (sv a0_0)) (t := 73) ?hr ?_; (case hd => rfl); (case hg => rfl); (case hr => first | (go_simp; done) | (go_simp; rfl)); intro gb1217 hg w4 hbox hb; have n0_ := Aside0.mk (below_step (by repeat (first | (with_reducible first | exact HB.out | apply below_alloc | apply pw_below_drewN | apply below_drew1) | exact HB.out)) hb); have n1_ := Aside0.mk (hbox); have n2_ := Aside0.mk ((by rw [hg]; exact (below_size (by repeat (first | (with_reducible first | exact HB.out | apply below_alloc | apply pw_below_drewN | apply below_drew1) | exact HB.out))) : w.heap.size ≤ gb1217)); have n3_ := Aside0.mk ((by rw [hg]; exact (below_size (by repeat (first | (with_reducible first | exact HB.out | apply below_alloc | apply pw_below_drewN | apply below_drew1) | exact HB.out))) : w.heap.size ≤ gb1217)); clear HB; have HB := n0_; have BK1217 := n1_; have GW1217 := n2_; have GE1217 := n3_; clear n0_ n1_ n2_ n3_; clear hb hbox hg; obtain ⟨hcz5_0, hcz5_0_c1, hcz5_0_c2, hcz5_0_c3, hcz5_0_c4, hcz5_0_c5, hcz5_0_c6⟩ := c7_of (a := a0_0) BK1217.out rfl; obtain ⟨hfz5_0, hfz5_0_c1, hfz5_0_c2, hfz5_0_c3, hfz5_0_c4, hfz5_0_c5, hfz5_0_c6⟩ := fz7 BK1217.out) | ((with_reducible refine gate_callee (f := 107) rfl ?_); refine goesL_ (some 4) rfl rfl Try.func107 (by kernel_rfl) rfl #[.agg (sv a0_0)] rfl (by (try simp only [List.map_toArray, List.map_cons, List.map_nil]); first | done | rfl | (simp only [List.length_drop, List.length_take]; rfl)) ?_; (with_reducible refine (scalar_Scalar_nat.calls a0_0 t1218 _ A2.out).mono ?_); rintro e w6 ⟨v1219, rfl, ho0, hb⟩; refine ⟨_, rfl, ?_⟩; have n0_ := Aside0.mk (Kd.R_lower ho0 (below_size (by repeat (first | (with_reducible first | exact HB.out | apply below_alloc | apply pw_below_drewN | apply below_drew1 | refine below_set ?_ GE1217.out) | exact HB.out)))); have n1_ := Aside0.mk (blk_below (g := gb1217) (o := .cells (sv a0_0) 73 (0, 0)) (by (with_reducible repeat (first | refine blk_drewN ?_ _ | refine blk_drew ?_ | refine blk_alloc ?_ _)); exact BK1217.out) hb); have n2_ := Aside0.mk (below_step (by repeat (first | (with_reducible first | exact HB.out | apply below_alloc | apply pw_below_drewN | apply below_drew1 | refine below_set ?_ GE1217.out) | exact HB.out)) hb); clear BK1217; clear HB; have HO1220 := n0_; have BK1217 := n1_; have HB := n2_; clear n0_ n1_ n2_; (try clear hb); (try clear hb2); (try clear hk); (try clear hi); (try clear ho0); obtain ⟨Ao7, co7, eo7⟩ := Kd.R_slice HO1220.out; subst eo7) | ((with_reducible refine gate_callee (f := 44) rfl ?_); refine goesL_ (some 5) rfl rfl Try.func44 (by kernel_rfl) rfl #[.slice Ao7 t1218.length co7] rfl (by (try simp only [List.map_toArray, List.map_cons, List.map_nil]); first | done | rfl | (simp only [List.length_drop, List.length_take]; rfl)) ?_; (with_reducible refine (number_Len.calls k _ _ t1218 t1221 _ ?side1 ?side2 A3.out).mono ?_); (case side1 => repeat (first | exact (Kd.R_reads' HO1220.out).2.2 | (with_reducible refine Kd.C_alloc ?_ _) | (with_reducible refine Kd.C_drewN ?_ _) | (with_reducible refine Kd.C_drew ?_))); (case side2 => exact (Kd.R_reads' HO1220.out).2.1); rintro e w8 ⟨rfl, hb⟩; refine ⟨_, rfl, ?_⟩; have n0_ := Aside0.mk (Kd.R_below (by (with_reducible repeat (first | apply Kd.R_alloc | apply Kd.R_drewN | apply Kd.R_drew)); exact HO1220.out) hb); have n1_ := Aside0.mk (blk_below (g := gb1217) (o := .cells (sv a0_0) 73 (0, 0)) (by (with_reducible repeat (first | refine blk_drewN ?_ _ | refine blk_drew ?_ | refine blk_alloc ?_ _)); exact BK1217.out) hb); have n2_ := Aside0.mk (below_step (by repeat (first | (with_reducible first | exact HB.out | apply below_alloc | apply pw_below_drewN | apply below_drew1 | refine below_set ?_ GE1217.out) | exact HB.out)) hb); clear HO1220; clear BK1217; clear HB; have HO1220 := n0_; have BK1217 := n1_; have HB := n2_; clear n0_ n1_ n2_; (try clear hb); (try clear hb2); (try clear hk); (try clear hi)))
  go_ret
  exact ⟨by first | rfl | (simp [errW_none, errW_some] <;> rfl) | (simp [*, errW_none, errW_some] <;> rfl), by repeat (first | (with_reducible first | exact HB.out | apply below_alloc | apply pw_below_drewN | apply below_drew1 | refine below_set ?_ GE1217.out) | exact HB.out)⟩
def scalar_Equal.f (k : Nat) (a0_0 : List Int) (a1_0 : List Int) : Option (Bool) := (scalar_Sub.f k a0_0 a1_0).bind fun t1224 => ((scalar_Zero.f k t1224).bind fun t1225 => (some t1225))
theorem scalar_Equal.mono : ∀ a0 a1 k, LeO (scalar_Equal.f k a0 a1) (scalar_Equal.f (k + 1) a0 a1) := by
  intro a0 a1 k
  unfold scalar_Equal.f
  repeat' first
      | (with_reducible exact scalar_Sub.mono _ _ _)
      | (with_reducible exact scalar_Zero.mono _ _)
      | (with_reducible exact LeO.refl _)
      | (with_reducible exact LeO.none _)
      | (with_reducible refine LeO.ite ?_ ?_)
      | (with_reducible refine LeO.bind ?_ (fun _ => ?_))
      | exact scalar_Sub.mono _ _ _
      | exact scalar_Zero.mono _ _
      | exact LeO.none _
      | refine LeO.ite ?_ ?_
      | refine LeO.bind ?_ (fun _ => ?_)
set_option maxHeartbeats 8000000 in
set_option maxRecDepth 100000 in
theorem scalar_Equal.calls (k : Nat) (a0_0 : List Int) (a1_0 : List Int) (r : Bool) (w : World) (h : scalar_Equal.f k a0_0 a1_0 = some r) :
    Calls Try.prog 76 #[.agg (sv a0_0), .agg (sv a1_0)] w fun e w' => e = .returned (.bool r) ∧ Below w.heap.size w w' := by
  have hu73 := Try.underlying73
  have HB := Aside0.mk (Below.refl w.heap.size w)
  have H : ((scalar_Sub.f k a0_0 a1_0).bind fun t1224 => ((scalar_Zero.f k t1224).bind fun t1225 => (some t1225))) = some r := h
  clear h
  replace H := Option.bind_eq_some_iff.mp H
  obtain ⟨t1224, A30, H⟩ := H
  replace H : ((scalar_Zero.f k t1224).bind fun t1225 => (some t1225)) = some r := H
  have A3 := Aside0.mk A30
  clear A30
  replace H := Option.bind_eq_some_iff.mp H
  obtain ⟨t1225, A40, H⟩ := H
  replace H : (some t1225) = some r := H
  have A4 := Aside0.mk A40
  clear A40
  obtain rfl := Option.some.inj H
  go_enter Try.func76, Try.ntmps76
  go_wp2_with (first | ((with_reducible refine gate_dst (N := 2) rfl ?_); refine box_event ?hg (N := 2) ?hd (cs := (sv a0_0)) (t := 73) ?hr ?_; (case hd => rfl); (case hg => rfl); (case hr => first | (go_simp; done) | (go_simp; rfl)); intro gb1222 hg w5 hbox hb; have n0_ := Aside0.mk (below_step (by repeat (first | (with_reducible first | exact HB.out | apply below_alloc | apply pw_below_drewN | apply below_drew1) | exact HB.out)) hb); have n1_ := Aside0.mk (hbox); have n2_ := Aside0.mk ((by rw [hg]; exact (below_size (by repeat (first | (with_reducible first | exact HB.out | apply below_alloc | apply pw_below_drewN | apply below_drew1) | exact HB.out))) : w.heap.size ≤ gb1222)); have n3_ := Aside0.mk ((by rw [hg]; exact (below_size (by repeat (first | (with_reducible first | exact HB.out | apply below_alloc | apply pw_below_drewN | apply below_drew1) | exact HB.out))) : w.heap.size ≤ gb1222)); clear HB; have HB := n0_; have BK1222 := n1_; have GW1222 := n2_; have GE1222 := n3_; clear n0_ n1_ n2_ n3_; clear hb hbox hg) | ((with_reducible refine gate_dst (N := 3) rfl ?_); refine box_event ?hg (N := 3) ?hd (cs := (sv a1_0)) (t := 73) ?hr ?_; (case hd => rfl); (case hg => rfl); (case hr => first | (go_simp; done) | (go_simp; rfl)); intro gb1223 hg w6 hbox hb; have n0_ := Aside0.mk (blk_below (g := gb1222) (o := .cells (sv a0_0) 73 (0, 0)) (by (with_reducible repeat (first | refine blk_drewN ?_ _ | refine blk_drew ?_ | refine blk_alloc ?_ _)); exact BK1222.out) hb); have n1_ := Aside0.mk (below_step (by repeat (first | (with_reducible first | exact HB.out | apply below_alloc | apply pw_below_drewN | apply below_drew1 | refine below_set ?_ GE1222.out) | exact HB.out)) hb); have n2_ := Aside0.mk (hbox); have n3_ := Aside0.mk ((by rw [hg]; exact (below_size (by repeat (first | (with_reducible first | exact HB.out | apply below_alloc | apply pw_below_drewN | apply below_drew1 | refine below_set ?_ GE1222.out) | exact HB.out))) : w.heap.size ≤ gb1223)); have n4_ := Aside0.mk ((by rw [hg]; exact (below_size (by repeat (first | (with_reducible first | exact HB.out | apply below_alloc | apply pw_below_drewN | apply below_drew1 | refine below_set ?_ GE1222.out) | exact HB.out))) : w.heap.size ≤ gb1223)); have n5_ := Aside0.mk ((by rw [hg]; exact Nat.ne_of_lt (blk_lt (g := gb1222) (o := .cells (sv a0_0) 73 (0, 0)) (by (with_reducible repeat (first | refine blk_drewN ?_ _ | refine blk_drew ?_ | refine blk_alloc ?_ _)); exact BK1222.out)) : gb1222 ≠ gb1223)); have n6_ := Aside0.mk ((by rw [hg]; exact Nat.ne_of_gt (blk_lt (g := gb1222) (o := .cells (sv a0_0) 73 (0, 0)) (by (with_reducible repeat (first | refine blk_drewN ?_ _ | refine blk_drew ?_ | refine blk_alloc ?_ _)); exact BK1222.out)) : gb1223 ≠ gb1222)); clear BK1222; clear HB; have BK1222 := n0_; have HB := n1_; have BK1223 := n2_; have GW1223 := n3_; have GE1223 := n4_; have NB1222_1223 := n5_; have NB1223_1222 := n6_; clear n0_ n1_ n2_ n3_ n4_ n5_ n6_; clear hb hbox hg; have hnb7 := NB1222_1223.out; have hnc7 := NB1223_1222.out; obtain ⟨hcz8_0, hcz8_0_c1, hcz8_0_c2, hcz8_0_c3, hcz8_0_c4, hcz8_0_c5, hcz8_0_c6⟩ := c7_of (a := a0_0) BK1222.out rfl; obtain ⟨hfz8_0, hfz8_0_c1, hfz8_0_c2, hfz8_0_c3, hfz8_0_c4, hfz8_0_c5, hfz8_0_c6⟩ := fz7 BK1222.out; obtain ⟨hcz9_0, hcz9_0_c1, hcz9_0_c2, hcz9_0_c3, hcz9_0_c4, hcz9_0_c5, hcz9_0_c6⟩ := c7_of (a := a1_0) BK1223.out rfl; obtain ⟨hfz9_0, hfz9_0_c1, hfz9_0_c2, hfz9_0_c3, hfz9_0_c4, hfz9_0_c5, hfz9_0_c6⟩ := fz7 BK1223.out) | ((with_reducible refine gate_callee (f := 66) rfl ?_); refine goesL_ (some 7) rfl rfl Try.func66 (by kernel_rfl) rfl #[.agg (sv a0_0), .agg (sv a1_0)] rfl (by (try simp only [List.map_toArray, List.map_cons, List.map_nil]); first | done | rfl | (simp only [List.length_drop, List.length_take]; rfl)) ?_; (with_reducible refine (scalar_Sub.calls k a0_0 a1_0 t1224 _ A3.out).mono ?_); rintro e w10 ⟨rfl, hb⟩; refine ⟨_, rfl, ?_⟩; have n0_ := Aside0.mk (blk_below (g := gb1222) (o := .cells (sv a0_0) 73 (0, 0)) (by (with_reducible repeat (first | refine blk_drewN ?_ _ | refine blk_drew ?_ | refine blk_alloc ?_ _)); exact BK1222.out) hb); have n1_ := Aside0.mk (blk_below (g := gb1223) (o := .cells (sv a1_0) 73 (0, 0)) (by (with_reducible repeat (first | refine blk_drewN ?_ _ | refine blk_drew ?_ | refine blk_alloc ?_ _)); exact BK1223.out) hb); have n2_ := Aside0.mk (below_step (by repeat (first | (with_reducible first | exact HB.out | apply below_alloc | apply pw_below_drewN | apply below_drew1 | refine below_set ?_ GE1222.out | refine below_set ?_ GE1223.out) | exact HB.out)) hb); clear BK1222; clear BK1223; clear HB; have BK1222 := n0_; have BK1223 := n1_; have HB := n2_; clear n0_ n1_ n2_; (try clear hb); (try clear hb2); (try clear hk); (try clear hi)) | ((with_reducible refine gate_callee (f := 77) rfl ?_); refine goesL_ (some 8) rfl rfl Try.func77 (by kernel_rfl) rfl #[.agg (sv t1224)] rfl (by (try simp only [List.map_toArray, List.map_cons, List.map_nil]); first | done | rfl | (simp only [List.length_drop, List.length_take]; rfl)) ?_; (with_reducible refine (scalar_Zero.calls k t1224 t1225 _ A4.out).mono ?_); rintro e w11 ⟨rfl, hb⟩; refine ⟨_, rfl, ?_⟩; have n0_ := Aside0.mk (blk_below (g := gb1222) (o := .cells (sv a0_0) 73 (0, 0)) (by (with_reducible repeat (first | refine blk_drewN ?_ _ | refine blk_drew ?_ | refine blk_alloc ?_ _)); exact BK1222.out) hb); have n1_ := Aside0.mk (blk_below (g := gb1223) (o := .cells (sv a1_0) 73 (0, 0)) (by (with_reducible repeat (first | refine blk_drewN ?_ _ | refine blk_drew ?_ | refine blk_alloc ?_ _)); exact BK1223.out) hb); have n2_ := Aside0.mk (below_step (by repeat (first | (with_reducible first | exact HB.out | apply below_alloc | apply pw_below_drewN | apply below_drew1 | refine below_set ?_ GE1222.out | refine below_set ?_ GE1223.out) | exact HB.out)) hb); clear BK1222; clear BK1223; clear HB; have BK1222 := n0_; have BK1223 := n1_; have HB := n2_; clear n0_ n1_ n2_; (try clear hb); (try clear hb2); (try clear hk); (try clear hi)))
  go_ret
  exact ⟨by first | rfl | (simp [errW_none, errW_some] <;> rfl) | (simp [*, errW_none, errW_some] <;> rfl), by repeat (first | (with_reducible first | exact HB.out | apply below_alloc | apply pw_below_drewN | apply below_drew1 | refine below_set ?_ GE1222.out | refine below_set ?_ GE1223.out) | exact HB.out)⟩
end Go.Proofs.Ytdaehflffecllaa.N
namespace Go.Proofs.Ytdaehflffecllaa.N
open Go.RowKit Go.Proofs.YtdaehflffecllaaW.PrintWords Go.Proofs.YtdaehflffecllaaW.PrintLast Go.Proofs.YtdaehflffecllaaW.PrintMore
attribute [local go_sem] max2_int min2_int max_two min_two max_three min_three max_four min_four   -- for this text's walks alone
set_option linter.unusedVariables false
set_option linter.unusedSimpArgs false
def chicorylaw06_awake.f (k : Nat)  : Option (Bool) := (scalar_Int.f k (-1)).bind fun t1226 => ((scalar_Bytes.f k t1226).bind fun t1227 => ((scalar_Int.f k 1).bind fun t1230 => ((scalar_Half.f k t1230).bind fun t1231 => (if (t1227.length : Int) = 57 then (if 0 < (t1227.length : Int) then (if (rd t1227 0) = 242 then (if 1 < (t1227.length : Int) then (if (rd t1227 1) = 68 then (if 2 < (t1227.length : Int) then (if (rd t1227 2) = 88 then (if 3 < (t1227.length : Int) then (if (rd t1227 3) = 171 then ((scalar_Add.f k t1231 t1231).bind fun t1237 => ((scalar_Int.f k 1).bind fun t1238 => ((scalar_Equal.f k t1237 t1238).bind fun t1239 => (some t1239)))) else (some false)) else (none)) else (some false)) else (none)) else (some false)) else (none)) else (some false)) else (none)) else (some false)))))
theorem chicorylaw06_awake.mono : ∀ k, LeO (chicorylaw06_awake.f k ) (chicorylaw06_awake.f (k + 1) ) := by
  intro  k
  unfold chicorylaw06_awake.f
  repeat' first
      | (with_reducible exact scalar_Add.mono _ _ _)
      | (with_reducible exact scalar_Bytes.mono _ _)
      | (with_reducible exact scalar_Equal.mono _ _ _)
      | (with_reducible exact scalar_Half.mono _ _)
      | (with_reducible exact scalar_Int.mono _ _)
      | (with_reducible exact LeO.refl _)
      | (with_reducible exact LeO.none _)
      | (with_reducible refine LeO.ite ?_ ?_)
      | (with_reducible refine LeO.bind ?_ (fun _ => ?_))
      | exact scalar_Add.mono _ _ _
      | exact scalar_Bytes.mono _ _
      | exact scalar_Equal.mono _ _ _
      | exact scalar_Half.mono _ _
      | exact scalar_Int.mono _ _
      | exact LeO.none _
      | refine LeO.ite ?_ ?_
      | refine LeO.bind ?_ (fun _ => ?_)
set_option maxHeartbeats 8000000 in
set_option maxRecDepth 100000 in
theorem chicorylaw06_awake.calls (k : Nat)  (r : Bool) (w : World) (h : chicorylaw06_awake.f k  = some r) :
    Calls Try.prog 71 #[] w fun e w' => e = .returned (.bool r) ∧ Below w.heap.size w w' := by
  have hu73 := Try.underlying73
  have HB := Aside0.mk (Below.refl w.heap.size w)
  have H : ((scalar_Int.f k (-1)).bind fun t1226 => ((scalar_Bytes.f k t1226).bind fun t1227 => ((scalar_Int.f k 1).bind fun t1230 => ((scalar_Half.f k t1230).bind fun t1231 => (if (t1227.length : Int) = 57 then (if 0 < (t1227.length : Int) then (if (rd t1227 0) = 242 then (if 1 < (t1227.length : Int) then (if (rd t1227 1) = 68 then (if 2 < (t1227.length : Int) then (if (rd t1227 2) = 88 then (if 3 < (t1227.length : Int) then (if (rd t1227 3) = 171 then ((scalar_Add.f k t1231 t1231).bind fun t1237 => ((scalar_Int.f k 1).bind fun t1238 => ((scalar_Equal.f k t1237 t1238).bind fun t1239 => (some t1239)))) else (some false)) else (none)) else (some false)) else (none)) else (some false)) else (none)) else (some false)) else (none)) else (some false)))))) = some r := h
  clear h
  replace H := Option.bind_eq_some_iff.mp H
  obtain ⟨t1226, A10, H⟩ := H
  replace H : ((scalar_Bytes.f k t1226).bind fun t1227 => ((scalar_Int.f k 1).bind fun t1230 => ((scalar_Half.f k t1230).bind fun t1231 => (if (t1227.length : Int) = 57 then (if 0 < (t1227.length : Int) then (if (rd t1227 0) = 242 then (if 1 < (t1227.length : Int) then (if (rd t1227 1) = 68 then (if 2 < (t1227.length : Int) then (if (rd t1227 2) = 88 then (if 3 < (t1227.length : Int) then (if (rd t1227 3) = 171 then ((scalar_Add.f k t1231 t1231).bind fun t1237 => ((scalar_Int.f k 1).bind fun t1238 => ((scalar_Equal.f k t1237 t1238).bind fun t1239 => (some t1239)))) else (some false)) else (none)) else (some false)) else (none)) else (some false)) else (none)) else (some false)) else (none)) else (some false))))) = some r := H
  have A1 := Aside0.mk A10
  clear A10
  replace H := Option.bind_eq_some_iff.mp H
  obtain ⟨t1227, A20, H⟩ := H
  replace H : ((scalar_Int.f k 1).bind fun t1230 => ((scalar_Half.f k t1230).bind fun t1231 => (if (t1227.length : Int) = 57 then (if 0 < (t1227.length : Int) then (if (rd t1227 0) = 242 then (if 1 < (t1227.length : Int) then (if (rd t1227 1) = 68 then (if 2 < (t1227.length : Int) then (if (rd t1227 2) = 88 then (if 3 < (t1227.length : Int) then (if (rd t1227 3) = 171 then ((scalar_Add.f k t1231 t1231).bind fun t1237 => ((scalar_Int.f k 1).bind fun t1238 => ((scalar_Equal.f k t1237 t1238).bind fun t1239 => (some t1239)))) else (some false)) else (none)) else (some false)) else (none)) else (some false)) else (none)) else (some false)) else (none)) else (some false)))) = some r := H
  have A2 := Aside0.mk A20
  clear A20
  replace H := Option.bind_eq_some_iff.mp H
  obtain ⟨t1230, A30, H⟩ := H
  replace H : ((scalar_Half.f k t1230).bind fun t1231 => (if (t1227.length : Int) = 57 then (if 0 < (t1227.length : Int) then (if (rd t1227 0) = 242 then (if 1 < (t1227.length : Int) then (if (rd t1227 1) = 68 then (if 2 < (t1227.length : Int) then (if (rd t1227 2) = 88 then (if 3 < (t1227.length : Int) then (if (rd t1227 3) = 171 then ((scalar_Add.f k t1231 t1231).bind fun t1237 => ((scalar_Int.f k 1).bind fun t1238 => ((scalar_Equal.f k t1237 t1238).bind fun t1239 => (some t1239)))) else (some false)) else (none)) else (some false)) else (none)) else (some false)) else (none)) else (some false)) else (none)) else (some false))) = some r := H
  have A3 := Aside0.mk A30
  clear A30
  replace H := Option.bind_eq_some_iff.mp H
  obtain ⟨t1231, A40, H⟩ := H
  replace H : (if (t1227.length : Int) = 57 then (if 0 < (t1227.length : Int) then (if (rd t1227 0) = 242 then (if 1 < (t1227.length : Int) then (if (rd t1227 1) = 68 then (if 2 < (t1227.length : Int) then (if (rd t1227 2) = 88 then (if 3 < (t1227.length : Int) then (if (rd t1227 3) = 171 then ((scalar_Add.f k t1231 t1231).bind fun t1237 => ((scalar_Int.f k 1).bind fun t1238 => ((scalar_Equal.f k t1237 t1238).bind fun t1239 => (some t1239)))) else (some false)) else (none)) else (some false)) else (none)) else (some false)) else (none)) else (some false)) else (none)) else (some false)) = some r := H
  have A4 := Aside0.mk A40
  clear A40
  by_cases c5 : (t1227.length : Int) = 57
  · rw [if_pos c5] at H
    have c5b0 : ((t1227.length : Int) == 57) = true := beq_iff_eq.mpr c5
    have c5b1 : ((t1227.length : Int) != 57) = false := bne_eq_false_iff_eq.mpr c5
    clear c5
    by_cases c6 : 0 < (t1227.length : Int)
    · rw [if_pos c6] at H
      have c6b0 : decide (0 < (t1227.length : Int)) = true := decide_eq_true c6
      have c6b1 : decide (0 < t1227.length) = true := decide_eq_true (by omega)
      clear c6
      by_cases c7 : (rd t1227 0) = 242
      · rw [if_pos c7] at H
        have c7b0 : ((rd t1227 0) == 242) = true := beq_iff_eq.mpr c7
        have c7b1 : ((rd t1227 0) != 242) = false := bne_eq_false_iff_eq.mpr c7
        clear c7
        by_cases c8 : 1 < (t1227.length : Int)
        · rw [if_pos c8] at H
          have c8b0 : decide (1 < (t1227.length : Int)) = true := decide_eq_true c8
          have c8b1 : decide (1 < t1227.length) = true := decide_eq_true (by omega)
          clear c8
          by_cases c9 : (rd t1227 1) = 68
          · rw [if_pos c9] at H
            have c9b0 : ((rd t1227 1) == 68) = true := beq_iff_eq.mpr c9
            have c9b1 : ((rd t1227 1) != 68) = false := bne_eq_false_iff_eq.mpr c9
            clear c9
            by_cases c10 : 2 < (t1227.length : Int)
            · rw [if_pos c10] at H
              have c10b0 : decide (2 < (t1227.length : Int)) = true := decide_eq_true c10
              have c10b1 : decide (2 < t1227.length) = true := decide_eq_true (by omega)
              clear c10
              by_cases c11 : (rd t1227 2) = 88
              · rw [if_pos c11] at H
                have c11b0 : ((rd t1227 2) == 88) = true := beq_iff_eq.mpr c11
                have c11b1 : ((rd t1227 2) != 88) = false := bne_eq_false_iff_eq.mpr c11
                clear c11
                by_cases c12 : 3 < (t1227.length : Int)
                · rw [if_pos c12] at H
                  have c12b0 : decide (3 < (t1227.length : Int)) = true := decide_eq_true c12
                  have c12b1 : decide (3 < t1227.length) = true := decide_eq_true (by omega)
                  clear c12
                  by_cases c13 : (rd t1227 3) = 171
                  · rw [if_pos c13] at H
                    have c13b0 : ((rd t1227 3) == 171) = true := beq_iff_eq.mpr c13
                    have c13b1 : ((rd t1227 3) != 171) = false := bne_eq_false_iff_eq.mpr c13
                    clear c13
                    replace H := Option.bind_eq_some_iff.mp H
                    obtain ⟨t1237, A140, H⟩ := H
                    replace H : ((scalar_Int.f k 1).bind fun t1238 => ((scalar_Equal.f k t1237 t1238).bind fun t1239 => (some t1239))) = some r := H
                    have A14 := Aside0.mk A140
                    clear A140
                    replace H := Option.bind_eq_some_iff.mp H
                    obtain ⟨t1238, A150, H⟩ := H
                    replace H : ((scalar_Equal.f k t1237 t1238).bind fun t1239 => (some t1239)) = some r := H
                    have A15 := Aside0.mk A150
                    clear A150
                    replace H := Option.bind_eq_some_iff.mp H
                    obtain ⟨t1239, A160, H⟩ := H
                    replace H : (some t1239) = some r := H
                    have A16 := Aside0.mk A160
                    clear A160
                    obtain rfl := Option.some.inj H
                    go_enter Try.func71, Try.ntmps71
                    go_wp2_with (first | ((with_reducible refine gate_callee (f := 69) rfl ?_); refine goesL_ (some 3) rfl rfl Try.func69 (by kernel_rfl) rfl #[.int .i64 (-1)] rfl (by (try simp only [List.map_toArray, List.map_cons, List.map_nil]); first | done | rfl | (simp only [List.length_drop, List.length_take]; rfl)) ?_; (with_reducible refine (scalar_Int.calls k (-1) t1226 _ A1.out).mono ?_); rintro e w17 ⟨rfl, hb⟩; refine ⟨_, rfl, ?_⟩; have n0_ := Aside0.mk (below_step (by repeat (first | (with_reducible first | exact HB.out | apply below_alloc | apply pw_below_drewN | apply below_drew1) | exact HB.out)) hb); clear HB; have HB := n0_; clear n0_; (try clear hb); (try clear hb2); (try clear hk); (try clear hi)) | ((with_reducible refine gate_callee (f := 89) rfl ?_); refine goesL_ (some 4) rfl rfl Try.func89 (by kernel_rfl) rfl #[.agg (sv t1226)] rfl (by (try simp only [List.map_toArray, List.map_cons, List.map_nil]); first | done | rfl | (simp only [List.length_drop, List.length_take]; rfl)) ?_; (with_reducible refine (scalar_Bytes.calls k t1226 t1227 _ A2.out).mono ?_); rintro e w18 ⟨v1228, rfl, ho0, hb⟩; refine ⟨_, rfl, ?_⟩; have n0_ := Aside0.mk (Kd.R_lower ho0 (below_size (by repeat (first | (with_reducible first | exact HB.out | apply below_alloc | apply pw_below_drewN | apply below_drew1) | exact HB.out)))); have n1_ := Aside0.mk (below_step (by repeat (first | (with_reducible first | exact HB.out | apply below_alloc | apply pw_below_drewN | apply below_drew1) | exact HB.out)) hb); clear HB; have HO1229 := n0_; have HB := n1_; clear n0_ n1_; (try clear hb); (try clear hb2); (try clear hk); (try clear hi); (try clear ho0)) | ((with_reducible refine gate_callee (f := 69) rfl ?_); refine goesL_ (some 5) rfl rfl Try.func69 (by kernel_rfl) rfl #[.int .i64 1] rfl (by (try simp only [List.map_toArray, List.map_cons, List.map_nil]); first | done | rfl | (simp only [List.length_drop, List.length_take]; rfl)) ?_; (with_reducible refine (scalar_Int.calls k 1 t1230 _ A3.out).mono ?_); rintro e w19 ⟨rfl, hb⟩; refine ⟨_, rfl, ?_⟩; have n0_ := Aside0.mk (Kd.R_below (by (with_reducible repeat (first | apply Kd.R_alloc | apply Kd.R_drewN | apply Kd.R_drew)); exact HO1229.out) hb); have n1_ := Aside0.mk (below_step (by repeat (first | (with_reducible first | exact HB.out | apply below_alloc | apply pw_below_drewN | apply below_drew1) | exact HB.out)) hb); clear HO1229; clear HB; have HO1229 := n0_; have HB := n1_; clear n0_ n1_; (try clear hb); (try clear hb2); (try clear hk); (try clear hi)) | ((with_reducible refine gate_callee (f := 74) rfl ?_); refine goesL_ (some 6) rfl rfl Try.func74 (by kernel_rfl) rfl #[.agg (sv t1230)] rfl (by (try simp only [List.map_toArray, List.map_cons, List.map_nil]); first | done | rfl | (simp only [List.length_drop, List.length_take]; rfl)) ?_; (with_reducible refine (scalar_Half.calls k t1230 t1231 _ A4.out).mono ?_); rintro e w20 ⟨rfl, hb⟩; refine ⟨_, rfl, ?_⟩; have n0_ := Aside0.mk (Kd.R_below (by (with_reducible repeat (first | apply Kd.R_alloc | apply Kd.R_drewN | apply Kd.R_drew)); exact HO1229.out) hb); have n1_ := Aside0.mk (below_step (by repeat (first | (with_reducible first | exact HB.out | apply below_alloc | apply pw_below_drewN | apply below_drew1) | exact HB.out)) hb); clear HO1229; clear HB; have HO1229 := n0_; have HB := n1_; clear n0_ n1_; (try clear hb); (try clear hb2); (try clear hk); (try clear hi)) | ((with_reducible refine gate_dst (N := 2) rfl ?_); refine box_event ?hg (N := 2) ?hd (cs := zv) (t := 73) ?hr ?_; (case hd => rfl); (case hg => rfl); (case hr => first | (go_simp; done) | (go_simp; rfl)); intro gb1232 hg w21 hbox hb; have n0_ := Aside0.mk (Kd.R_below (by (with_reducible repeat (first | apply Kd.R_alloc | apply Kd.R_drewN | apply Kd.R_drew)); exact HO1229.out) hb); have n1_ := Aside0.mk (below_step (by repeat (first | (with_reducible first | exact HB.out | apply below_alloc | apply pw_below_drewN | apply below_drew1) | exact HB.out)) hb); have n2_ := Aside0.mk (hbox); have n3_ := Aside0.mk ((by rw [hg]; exact (below_size (by repeat (first | (with_reducible first | exact HB.out | apply below_alloc | apply pw_below_drewN | apply below_drew1) | exact HB.out))) : w.heap.size ≤ gb1232)); have n4_ := Aside0.mk ((by rw [hg]; exact (below_size (by repeat (first | (with_reducible first | exact HB.out | apply below_alloc | apply pw_below_drewN | apply below_drew1) | exact HB.out))) : w.heap.size ≤ gb1232)); clear HO1229; clear HB; have HO1229 := n0_; have HB := n1_; have BK1232 := n2_; have GW1232 := n3_; have GE1232 := n4_; clear n0_ n1_ n2_ n3_ n4_; clear hb hbox hg; obtain ⟨hcz22_0, hcz22_0_c1, hcz22_0_c2, hcz22_0_c3, hcz22_0_c4, hcz22_0_c5, hcz22_0_c6⟩ := c7_of (a := z7) BK1232.out rfl; obtain ⟨hfz22_0, hfz22_0_c1, hfz22_0_c2, hfz22_0_c3, hfz22_0_c4, hfz22_0_c5, hfz22_0_c6⟩ := fz7 BK1232.out; obtain ⟨Ao23, co23, eo23⟩ := Kd.R_slice HO1229.out; subst eo23; have p1233 : 0 ≤ (0 : Int) := (by omega); have q1233 : 0 < (t1227.length : Int) := of_decide_eq_true (by first | (with_reducible assumption) | assumption); obtain ⟨ad1233, e1233, hx1233_0⟩ := Kd.at_int (Kd.R_reads' HO1229.out).2.2 0 p1233 q1233; cases e1233; have qi1233 : (0 < t1227.length) = True := eq_true (by omega); (try rw [show ((0 : Int)).toNat = 0 from rfl] at hx1233_0); (try rw [Addr.add_zero'] at hx1233_0); have hn1233_0 : ad1233.block ≠ gb1232 := Kd.own_blk (Kd.R_ne HO1229.out BK1232.out (by decide)); replace hx1233_0 := (cell_put7 (p := gb1232) (by first | (rw [add_block]; exact hn1233_0) | (show (Addr.add _ _).block ≠ _; rw [add_block]; exact hn1233_0) | exact hn1233_0) t1231).trans hx1233_0; clear hn1233_0; replace p1233 := eq_true p1233; replace q1233 := eq_true q1233; have p1234 : 0 ≤ (1 : Int) := (by omega); have q1234 : 1 < (t1227.length : Int) := of_decide_eq_true (by first | (with_reducible assumption) | assumption); obtain ⟨ad1234, e1234, hx1234_0⟩ := Kd.at_int (Kd.R_reads' HO1229.out).2.2 1 p1234 q1234; obtain rfl : ad1233 = ad1234 := (by injection e1234); (try simp only [show (1 : Int).toNat = 1 from rfl, Nat.reduceMul, Nat.reduceEqDiff, Go.Addr.add, ↓reduceIte] at hx1234_0); have qi1234 : (1 < t1227.length) = True := eq_true (by omega); (try rw [show ((1 : Int)).toNat = 1 from rfl] at hx1234_0); have hn1234_0 : ad1233.block ≠ gb1232 := Kd.own_blk (Kd.R_ne HO1229.out BK1232.out (by decide)); replace hx1234_0 := (cell_put7 (p := gb1232) (by first | (rw [add_block]; exact hn1234_0) | (show (Addr.add _ _).block ≠ _; rw [add_block]; exact hn1234_0) | exact hn1234_0) t1231).trans hx1234_0; clear hn1234_0; replace p1234 := eq_true p1234; replace q1234 := eq_true q1234; have p1235 : 0 ≤ (2 : Int) := (by omega); have q1235 : 2 < (t1227.length : Int) := of_decide_eq_true (by first | (with_reducible assumption) | assumption); obtain ⟨ad1235, e1235, hx1235_0⟩ := Kd.at_int (Kd.R_reads' HO1229.out).2.2 2 p1235 q1235; obtain rfl : ad1233 = ad1235 := (by injection e1235); (try simp only [show (2 : Int).toNat = 2 from rfl, Nat.reduceMul, Nat.reduceEqDiff, Go.Addr.add, ↓reduceIte] at hx1235_0); have qi1235 : (2 < t1227.length) = True := eq_true (by omega); (try rw [show ((2 : Int)).toNat = 2 from rfl] at hx1235_0); have hn1235_0 : ad1233.block ≠ gb1232 := Kd.own_blk (Kd.R_ne HO1229.out BK1232.out (by decide)); replace hx1235_0 := (cell_put7 (p := gb1232) (by first | (rw [add_block]; exact hn1235_0) | (show (Addr.add _ _).block ≠ _; rw [add_block]; exact hn1235_0) | exact hn1235_0) t1231).trans hx1235_0; clear hn1235_0; replace p1235 := eq_true p1235; replace q1235 := eq_true q1235; have p1236 : 0 ≤ (3 : Int) := (by omega); have q1236 : 3 < (t1227.length : Int) := of_decide_eq_true (by first | (with_reducible assumption) | assumption); obtain ⟨ad1236, e1236, hx1236_0⟩ := Kd.at_int (Kd.R_reads' HO1229.out).2.2 3 p1236 q1236; obtain rfl : ad1233 = ad1236 := (by injection e1236); (try simp only [show (3 : Int).toNat = 3 from rfl, Nat.reduceMul, Nat.reduceEqDiff, Go.Addr.add, ↓reduceIte] at hx1236_0); have qi1236 : (3 < t1227.length) = True := eq_true (by omega); (try rw [show ((3 : Int)).toNat = 3 from rfl] at hx1236_0); have hn1236_0 : ad1233.block ≠ gb1232 := Kd.own_blk (Kd.R_ne HO1229.out BK1232.out (by decide)); replace hx1236_0 := (cell_put7 (p := gb1232) (by first | (rw [add_block]; exact hn1236_0) | (show (Addr.add _ _).block ≠ _; rw [add_block]; exact hn1236_0) | exact hn1236_0) t1231).trans hx1236_0; clear hn1236_0; replace p1236 := eq_true p1236; replace q1236 := eq_true q1236) | (go_at_call 64; (with_reducible refine (scalar_Add.calls k t1231 t1231 t1237 _ A14.out).mono ?_); rintro e w24 ⟨rfl, hb⟩; have n0_ := Aside0.mk (Kd.R_below (by (with_reducible repeat (first | apply Kd.R_alloc | apply Kd.R_drewN | apply Kd.R_drew)); exact (Kd.R_mono (R_far7 (p := gb1232) (Kd.R_types HO1229.out BK1232.out (by decide)) (fun _ hk => hk.2)) (fun _ h_ => h_.1))) hb); have n1_ := Aside0.mk (blk_below (g := gb1232) (o := .cells (sv t1231) 73 (0, 0)) (by (with_reducible repeat (first | refine blk_drewN ?_ _ | refine blk_drew ?_ | refine blk_alloc ?_ _)); refine blk_put7z ?_; (with_reducible repeat (first | refine blk_drewN ?_ _ | refine blk_drew ?_ | refine blk_alloc ?_ _)); exact BK1232.out) hb); have n2_ := Aside0.mk (below_step (by repeat (first | (with_reducible first | exact HB.out | apply below_alloc | apply pw_below_drewN | apply below_drew1 | refine below_set ?_ GE1232.out) | exact HB.out)) hb); clear HO1229; clear BK1232; clear HB; have HO1229 := n0_; have BK1232 := n1_; have HB := n2_; clear n0_ n1_ n2_; (try clear hb); (try clear hb2); (try clear hk); (try clear hi)) | (go_at_call 69; (with_reducible refine (scalar_Int.calls k 1 t1238 _ A15.out).mono ?_); rintro e w25 ⟨rfl, hb⟩; have n0_ := Aside0.mk (Kd.R_below (by (with_reducible repeat (first | apply Kd.R_alloc | apply Kd.R_drewN | apply Kd.R_drew)); exact HO1229.out) hb); have n1_ := Aside0.mk (blk_below (g := gb1232) (o := .cells (sv t1231) 73 (0, 0)) (by (with_reducible repeat (first | refine blk_drewN ?_ _ | refine blk_drew ?_ | refine blk_alloc ?_ _)); exact BK1232.out) hb); have n2_ := Aside0.mk (below_step (by repeat (first | (with_reducible first | exact HB.out | apply below_alloc | apply pw_below_drewN | apply below_drew1 | refine below_set ?_ GE1232.out) | exact HB.out)) hb); clear HO1229; clear BK1232; clear HB; have HO1229 := n0_; have BK1232 := n1_; have HB := n2_; clear n0_ n1_ n2_; (try clear hb); (try clear hb2); (try clear hk); (try clear hi)) | (go_at_call 76; (with_reducible refine (scalar_Equal.calls k t1237 t1238 t1239 _ A16.out).mono ?_); rintro e w26 ⟨rfl, hb⟩; have n0_ := Aside0.mk (Kd.R_below (by (with_reducible repeat (first | apply Kd.R_alloc | apply Kd.R_drewN | apply Kd.R_drew)); exact HO1229.out) hb); have n1_ := Aside0.mk (blk_below (g := gb1232) (o := .cells (sv t1231) 73 (0, 0)) (by (with_reducible repeat (first | refine blk_drewN ?_ _ | refine blk_drew ?_ | refine blk_alloc ?_ _)); exact BK1232.out) hb); have n2_ := Aside0.mk (below_step (by repeat (first | (with_reducible first | exact HB.out | apply below_alloc | apply pw_below_drewN | apply below_drew1 | refine below_set ?_ GE1232.out) | exact HB.out)) hb); clear HO1229; clear BK1232; clear HB; have HO1229 := n0_; have BK1232 := n1_; have HB := n2_; clear n0_ n1_ n2_; (try clear hb); (try clear hb2); (try clear hk); (try clear hi)))
                    go_ret
                    exact ⟨by first | rfl | (simp [errW_none, errW_some] <;> rfl) | (simp [*, errW_none, errW_some] <;> rfl), by repeat (first | (with_reducible first | exact HB.out | apply below_alloc | apply pw_below_drewN | apply below_drew1 | refine below_set ?_ GE1232.out) | exact HB.out)⟩
                  · rw [if_neg c13] at H
                    have c13b0 : ((rd t1227 3) == 171) = false := beq_eq_false_iff_ne.mpr c13
                    have c13b1 : ((rd t1227 3) != 171) = true := bne_iff_ne.mpr c13
                    obtain rfl := Option.some.inj H
                    go_enter Try.func71, Try.ntmps71
                    go_wp2_with (first | ((with_reducible refine gate_callee (f := 69) rfl ?_); refine goesL_ (some 3) rfl rfl Try.func69 (by kernel_rfl) rfl #[.int .i64 (-1)] rfl (by (try simp only [List.map_toArray, List.map_cons, List.map_nil]); first | done | rfl | (simp only [List.length_drop, List.length_take]; rfl)) ?_; (with_reducible refine (scalar_Int.calls k (-1) t1226 _ A1.out).mono ?_); rintro e w27 ⟨rfl, hb⟩; refine ⟨_, rfl, ?_⟩; have n0_ := Aside0.mk (below_step (by repeat (first | (with_reducible first | exact HB.out | apply below_alloc | apply pw_below_drewN | apply below_drew1) | exact HB.out)) hb); clear HB; have HB := n0_; clear n0_; (try clear hb); (try clear hb2); (try clear hk); (try clear hi)) | ((with_reducible refine gate_callee (f := 89) rfl ?_); refine goesL_ (some 4) rfl rfl Try.func89 (by kernel_rfl) rfl #[.agg (sv t1226)] rfl (by (try simp only [List.map_toArray, List.map_cons, List.map_nil]); first | done | rfl | (simp only [List.length_drop, List.length_take]; rfl)) ?_; (with_reducible refine (scalar_Bytes.calls k t1226 t1227 _ A2.out).mono ?_); rintro e w28 ⟨v1228, rfl, ho0, hb⟩; refine ⟨_, rfl, ?_⟩; have n0_ := Aside0.mk (Kd.R_lower ho0 (below_size (by repeat (first | (with_reducible first | exact HB.out | apply below_alloc | apply pw_below_drewN | apply below_drew1) | exact HB.out)))); have n1_ := Aside0.mk (below_step (by repeat (first | (with_reducible first | exact HB.out | apply below_alloc | apply pw_below_drewN | apply below_drew1) | exact HB.out)) hb); clear HB; have HO1229 := n0_; have HB := n1_; clear n0_ n1_; (try clear hb); (try clear hb2); (try clear hk); (try clear hi); (try clear ho0)) | ((with_reducible refine gate_callee (f := 69) rfl ?_); refine goesL_ (some 5) rfl rfl Try.func69 (by kernel_rfl) rfl #[.int .i64 1] rfl (by (try simp only [List.map_toArray, List.map_cons, List.map_nil]); first | done | rfl | (simp only [List.length_drop, List.length_take]; rfl)) ?_; (with_reducible refine (scalar_Int.calls k 1 t1230 _ A3.out).mono ?_); rintro e w29 ⟨rfl, hb⟩; refine ⟨_, rfl, ?_⟩; have n0_ := Aside0.mk (Kd.R_below (by (with_reducible repeat (first | apply Kd.R_alloc | apply Kd.R_drewN | apply Kd.R_drew)); exact HO1229.out) hb); have n1_ := Aside0.mk (below_step (by repeat (first | (with_reducible first | exact HB.out | apply below_alloc | apply pw_below_drewN | apply below_drew1) | exact HB.out)) hb); clear HO1229; clear HB; have HO1229 := n0_; have HB := n1_; clear n0_ n1_; (try clear hb); (try clear hb2); (try clear hk); (try clear hi)) | ((with_reducible refine gate_callee (f := 74) rfl ?_); refine goesL_ (some 6) rfl rfl Try.func74 (by kernel_rfl) rfl #[.agg (sv t1230)] rfl (by (try simp only [List.map_toArray, List.map_cons, List.map_nil]); first | done | rfl | (simp only [List.length_drop, List.length_take]; rfl)) ?_; (with_reducible refine (scalar_Half.calls k t1230 t1231 _ A4.out).mono ?_); rintro e w30 ⟨rfl, hb⟩; refine ⟨_, rfl, ?_⟩; have n0_ := Aside0.mk (Kd.R_below (by (with_reducible repeat (first | apply Kd.R_alloc | apply Kd.R_drewN | apply Kd.R_drew)); exact HO1229.out) hb); have n1_ := Aside0.mk (below_step (by repeat (first | (with_reducible first | exact HB.out | apply below_alloc | apply pw_below_drewN | apply below_drew1) | exact HB.out)) hb); clear HO1229; clear HB; have HO1229 := n0_; have HB := n1_; clear n0_ n1_; (try clear hb); (try clear hb2); (try clear hk); (try clear hi)) | ((with_reducible refine gate_dst (N := 2) rfl ?_); refine box_event ?hg (N := 2) ?hd (cs := zv) (t := 73) ?hr ?_; (case hd => rfl); (case hg => rfl); (case hr => first | (go_simp; done) | (go_simp; rfl)); intro gb1232 hg w31 hbox hb; have n0_ := Aside0.mk (Kd.R_below (by (with_reducible repeat (first | apply Kd.R_alloc | apply Kd.R_drewN | apply Kd.R_drew)); exact HO1229.out) hb); have n1_ := Aside0.mk (below_step (by repeat (first | (with_reducible first | exact HB.out | apply below_alloc | apply pw_below_drewN | apply below_drew1) | exact HB.out)) hb); have n2_ := Aside0.mk (hbox); have n3_ := Aside0.mk ((by rw [hg]; exact (below_size (by repeat (first | (with_reducible first | exact HB.out | apply below_alloc | apply pw_below_drewN | apply below_drew1) | exact HB.out))) : w.heap.size ≤ gb1232)); have n4_ := Aside0.mk ((by rw [hg]; exact (below_size (by repeat (first | (with_reducible first | exact HB.out | apply below_alloc | apply pw_below_drewN | apply below_drew1) | exact HB.out))) : w.heap.size ≤ gb1232)); clear HO1229; clear HB; have HO1229 := n0_; have HB := n1_; have BK1232 := n2_; have GW1232 := n3_; have GE1232 := n4_; clear n0_ n1_ n2_ n3_ n4_; clear hb hbox hg; obtain ⟨hcz32_0, hcz32_0_c1, hcz32_0_c2, hcz32_0_c3, hcz32_0_c4, hcz32_0_c5, hcz32_0_c6⟩ := c7_of (a := z7) BK1232.out rfl; obtain ⟨hfz32_0, hfz32_0_c1, hfz32_0_c2, hfz32_0_c3, hfz32_0_c4, hfz32_0_c5, hfz32_0_c6⟩ := fz7 BK1232.out; obtain ⟨Ao33, co33, eo33⟩ := Kd.R_slice HO1229.out; subst eo33; have p1233 : 0 ≤ (0 : Int) := (by omega); have q1233 : 0 < (t1227.length : Int) := of_decide_eq_true (by first | (with_reducible assumption) | assumption); obtain ⟨ad1233, e1233, hx1233_0⟩ := Kd.at_int (Kd.R_reads' HO1229.out).2.2 0 p1233 q1233; cases e1233; have qi1233 : (0 < t1227.length) = True := eq_true (by omega); (try rw [show ((0 : Int)).toNat = 0 from rfl] at hx1233_0); (try rw [Addr.add_zero'] at hx1233_0); have hn1233_0 : ad1233.block ≠ gb1232 := Kd.own_blk (Kd.R_ne HO1229.out BK1232.out (by decide)); replace hx1233_0 := (cell_put7 (p := gb1232) (by first | (rw [add_block]; exact hn1233_0) | (show (Addr.add _ _).block ≠ _; rw [add_block]; exact hn1233_0) | exact hn1233_0) t1231).trans hx1233_0; clear hn1233_0; replace p1233 := eq_true p1233; replace q1233 := eq_true q1233; have p1234 : 0 ≤ (1 : Int) := (by omega); have q1234 : 1 < (t1227.length : Int) := of_decide_eq_true (by first | (with_reducible assumption) | assumption); obtain ⟨ad1234, e1234, hx1234_0⟩ := Kd.at_int (Kd.R_reads' HO1229.out).2.2 1 p1234 q1234; obtain rfl : ad1233 = ad1234 := (by injection e1234); (try simp only [show (1 : Int).toNat = 1 from rfl, Nat.reduceMul, Nat.reduceEqDiff, Go.Addr.add, ↓reduceIte] at hx1234_0); have qi1234 : (1 < t1227.length) = True := eq_true (by omega); (try rw [show ((1 : Int)).toNat = 1 from rfl] at hx1234_0); have hn1234_0 : ad1233.block ≠ gb1232 := Kd.own_blk (Kd.R_ne HO1229.out BK1232.out (by decide)); replace hx1234_0 := (cell_put7 (p := gb1232) (by first | (rw [add_block]; exact hn1234_0) | (show (Addr.add _ _).block ≠ _; rw [add_block]; exact hn1234_0) | exact hn1234_0) t1231).trans hx1234_0; clear hn1234_0; replace p1234 := eq_true p1234; replace q1234 := eq_true q1234; have p1235 : 0 ≤ (2 : Int) := (by omega); have q1235 : 2 < (t1227.length : Int) := of_decide_eq_true (by first | (with_reducible assumption) | assumption); obtain ⟨ad1235, e1235, hx1235_0⟩ := Kd.at_int (Kd.R_reads' HO1229.out).2.2 2 p1235 q1235; obtain rfl : ad1233 = ad1235 := (by injection e1235); (try simp only [show (2 : Int).toNat = 2 from rfl, Nat.reduceMul, Nat.reduceEqDiff, Go.Addr.add, ↓reduceIte] at hx1235_0); have qi1235 : (2 < t1227.length) = True := eq_true (by omega); (try rw [show ((2 : Int)).toNat = 2 from rfl] at hx1235_0); have hn1235_0 : ad1233.block ≠ gb1232 := Kd.own_blk (Kd.R_ne HO1229.out BK1232.out (by decide)); replace hx1235_0 := (cell_put7 (p := gb1232) (by first | (rw [add_block]; exact hn1235_0) | (show (Addr.add _ _).block ≠ _; rw [add_block]; exact hn1235_0) | exact hn1235_0) t1231).trans hx1235_0; clear hn1235_0; replace p1235 := eq_true p1235; replace q1235 := eq_true q1235; have p1236 : 0 ≤ (3 : Int) := (by omega); have q1236 : 3 < (t1227.length : Int) := of_decide_eq_true (by first | (with_reducible assumption) | assumption); obtain ⟨ad1236, e1236, hx1236_0⟩ := Kd.at_int (Kd.R_reads' HO1229.out).2.2 3 p1236 q1236; obtain rfl : ad1233 = ad1236 := (by injection e1236); (try simp only [show (3 : Int).toNat = 3 from rfl, Nat.reduceMul, Nat.reduceEqDiff, Go.Addr.add, ↓reduceIte] at hx1236_0); have qi1236 : (3 < t1227.length) = True := eq_true (by omega); (try rw [show ((3 : Int)).toNat = 3 from rfl] at hx1236_0); have hn1236_0 : ad1233.block ≠ gb1232 := Kd.own_blk (Kd.R_ne HO1229.out BK1232.out (by decide)); replace hx1236_0 := (cell_put7 (p := gb1232) (by first | (rw [add_block]; exact hn1236_0) | (show (Addr.add _ _).block ≠ _; rw [add_block]; exact hn1236_0) | exact hn1236_0) t1231).trans hx1236_0; clear hn1236_0; replace p1236 := eq_true p1236; replace q1236 := eq_true q1236))
                    go_ret
                    exact ⟨by first | rfl | (simp [errW_none, errW_some] <;> rfl) | (simp [*, errW_none, errW_some] <;> rfl), by repeat (first | (with_reducible first | exact HB.out | apply below_alloc | apply pw_below_drewN | apply below_drew1 | refine below_set ?_ GE1232.out) | exact HB.out)⟩
                · rw [if_neg c12] at H
                  exact absurd H (by simp)
              · rw [if_neg c11] at H
                have c11b0 : ((rd t1227 2) == 88) = false := beq_eq_false_iff_ne.mpr c11
                have c11b1 : ((rd t1227 2) != 88) = true := bne_iff_ne.mpr c11
                obtain rfl := Option.some.inj H
                go_enter Try.func71, Try.ntmps71
                go_wp2_with (first | ((with_reducible refine gate_callee (f := 69) rfl ?_); refine goesL_ (some 3) rfl rfl Try.func69 (by kernel_rfl) rfl #[.int .i64 (-1)] rfl (by (try simp only [List.map_toArray, List.map_cons, List.map_nil]); first | done | rfl | (simp only [List.length_drop, List.length_take]; rfl)) ?_; (with_reducible refine (scalar_Int.calls k (-1) t1226 _ A1.out).mono ?_); rintro e w34 ⟨rfl, hb⟩; refine ⟨_, rfl, ?_⟩; have n0_ := Aside0.mk (below_step (by repeat (first | (with_reducible first | exact HB.out | apply below_alloc | apply pw_below_drewN | apply below_drew1) | exact HB.out)) hb); clear HB; have HB := n0_; clear n0_; (try clear hb); (try clear hb2); (try clear hk); (try clear hi)) | ((with_reducible refine gate_callee (f := 89) rfl ?_); refine goesL_ (some 4) rfl rfl Try.func89 (by kernel_rfl) rfl #[.agg (sv t1226)] rfl (by (try simp only [List.map_toArray, List.map_cons, List.map_nil]); first | done | rfl | (simp only [List.length_drop, List.length_take]; rfl)) ?_; (with_reducible refine (scalar_Bytes.calls k t1226 t1227 _ A2.out).mono ?_); rintro e w35 ⟨v1228, rfl, ho0, hb⟩; refine ⟨_, rfl, ?_⟩; have n0_ := Aside0.mk (Kd.R_lower ho0 (below_size (by repeat (first | (with_reducible first | exact HB.out | apply below_alloc | apply pw_below_drewN | apply below_drew1) | exact HB.out)))); have n1_ := Aside0.mk (below_step (by repeat (first | (with_reducible first | exact HB.out | apply below_alloc | apply pw_below_drewN | apply below_drew1) | exact HB.out)) hb); clear HB; have HO1229 := n0_; have HB := n1_; clear n0_ n1_; (try clear hb); (try clear hb2); (try clear hk); (try clear hi); (try clear ho0)) | ((with_reducible refine gate_callee (f := 69) rfl ?_); refine goesL_ (some 5) rfl rfl Try.func69 (by kernel_rfl) rfl #[.int .i64 1] rfl (by (try simp only [List.map_toArray, List.map_cons, List.map_nil]); first | done | rfl | (simp only [List.length_drop, List.length_take]; rfl)) ?_; (with_reducible refine (scalar_Int.calls k 1 t1230 _ A3.out).mono ?_); rintro e w36 ⟨rfl, hb⟩; refine ⟨_, rfl, ?_⟩; have n0_ := Aside0.mk (Kd.R_below (by (with_reducible repeat (first | apply Kd.R_alloc | apply Kd.R_drewN | apply Kd.R_drew)); exact HO1229.out) hb); have n1_ := Aside0.mk (below_step (by repeat (first | (with_reducible first | exact HB.out | apply below_alloc | apply pw_below_drewN | apply below_drew1) | exact HB.out)) hb); clear HO1229; clear HB; have HO1229 := n0_; have HB := n1_; clear n0_ n1_; (try clear hb); (try clear hb2); (try clear hk); (try clear hi)) | ((with_reducible refine gate_callee (f := 74) rfl ?_); refine goesL_ (some 6) rfl rfl Try.func74 (by kernel_rfl) rfl #[.agg (sv t1230)] rfl (by (try simp only [List.map_toArray, List.map_cons, List.map_nil]); first | done | rfl | (simp only [List.length_drop, List.length_take]; rfl)) ?_; (with_reducible refine (scalar_Half.calls k t1230 t1231 _ A4.out).mono ?_); rintro e w37 ⟨rfl, hb⟩; refine ⟨_, rfl, ?_⟩; have n0_ := Aside0.mk (Kd.R_below (by (with_reducible repeat (first | apply Kd.R_alloc | apply Kd.R_drewN | apply Kd.R_drew)); exact HO1229.out) hb); have n1_ := Aside0.mk (below_step (by repeat (first | (with_reducible first | exact HB.out | apply below_alloc | apply pw_below_drewN | apply below_drew1) | exact HB.out)) hb); clear HO1229; clear HB; have HO1229 := n0_; have HB := n1_; clear n0_ n1_; (try clear hb); (try clear hb2); (try clear hk); (try clear hi)) | ((with_reducible refine gate_dst (N := 2) rfl ?_); refine box_event ?hg (N := 2) ?hd (cs := zv) (t := 73) ?hr ?_; (case hd => rfl); (case hg => rfl); (case hr => first | (go_simp; done) | (go_simp; rfl)); intro gb1232 hg w38 hbox hb; have n0_ := Aside0.mk (Kd.R_below (by (with_reducible repeat (first | apply Kd.R_alloc | apply Kd.R_drewN | apply Kd.R_drew)); exact HO1229.out) hb); have n1_ := Aside0.mk (below_step (by repeat (first | (with_reducible first | exact HB.out | apply below_alloc | apply pw_below_drewN | apply below_drew1) | exact HB.out)) hb); have n2_ := Aside0.mk (hbox); have n3_ := Aside0.mk ((by rw [hg]; exact (below_size (by repeat (first | (with_reducible first | exact HB.out | apply below_alloc | apply pw_below_drewN | apply below_drew1) | exact HB.out))) : w.heap.size ≤ gb1232)); have n4_ := Aside0.mk ((by rw [hg]; exact (below_size (by repeat (first | (with_reducible first | exact HB.out | apply below_alloc | apply pw_below_drewN | apply below_drew1) | exact HB.out))) : w.heap.size ≤ gb1232)); clear HO1229; clear HB; have HO1229 := n0_; have HB := n1_; have BK1232 := n2_; have GW1232 := n3_; have GE1232 := n4_; clear n0_ n1_ n2_ n3_ n4_; clear hb hbox hg; obtain ⟨hcz39_0, hcz39_0_c1, hcz39_0_c2, hcz39_0_c3, hcz39_0_c4, hcz39_0_c5, hcz39_0_c6⟩ := c7_of (a := z7) BK1232.out rfl; obtain ⟨hfz39_0, hfz39_0_c1, hfz39_0_c2, hfz39_0_c3, hfz39_0_c4, hfz39_0_c5, hfz39_0_c6⟩ := fz7 BK1232.out; obtain ⟨Ao40, co40, eo40⟩ := Kd.R_slice HO1229.out; subst eo40; have p1233 : 0 ≤ (0 : Int) := (by omega); have q1233 : 0 < (t1227.length : Int) := of_decide_eq_true (by first | (with_reducible assumption) | assumption); obtain ⟨ad1233, e1233, hx1233_0⟩ := Kd.at_int (Kd.R_reads' HO1229.out).2.2 0 p1233 q1233; cases e1233; have qi1233 : (0 < t1227.length) = True := eq_true (by omega); (try rw [show ((0 : Int)).toNat = 0 from rfl] at hx1233_0); (try rw [Addr.add_zero'] at hx1233_0); have hn1233_0 : ad1233.block ≠ gb1232 := Kd.own_blk (Kd.R_ne HO1229.out BK1232.out (by decide)); replace hx1233_0 := (cell_put7 (p := gb1232) (by first | (rw [add_block]; exact hn1233_0) | (show (Addr.add _ _).block ≠ _; rw [add_block]; exact hn1233_0) | exact hn1233_0) t1231).trans hx1233_0; clear hn1233_0; replace p1233 := eq_true p1233; replace q1233 := eq_true q1233; have p1234 : 0 ≤ (1 : Int) := (by omega); have q1234 : 1 < (t1227.length : Int) := of_decide_eq_true (by first | (with_reducible assumption) | assumption); obtain ⟨ad1234, e1234, hx1234_0⟩ := Kd.at_int (Kd.R_reads' HO1229.out).2.2 1 p1234 q1234; obtain rfl : ad1233 = ad1234 := (by injection e1234); (try simp only [show (1 : Int).toNat = 1 from rfl, Nat.reduceMul, Nat.reduceEqDiff, Go.Addr.add, ↓reduceIte] at hx1234_0); have qi1234 : (1 < t1227.length) = True := eq_true (by omega); (try rw [show ((1 : Int)).toNat = 1 from rfl] at hx1234_0); have hn1234_0 : ad1233.block ≠ gb1232 := Kd.own_blk (Kd.R_ne HO1229.out BK1232.out (by decide)); replace hx1234_0 := (cell_put7 (p := gb1232) (by first | (rw [add_block]; exact hn1234_0) | (show (Addr.add _ _).block ≠ _; rw [add_block]; exact hn1234_0) | exact hn1234_0) t1231).trans hx1234_0; clear hn1234_0; replace p1234 := eq_true p1234; replace q1234 := eq_true q1234; have p1235 : 0 ≤ (2 : Int) := (by omega); have q1235 : 2 < (t1227.length : Int) := of_decide_eq_true (by first | (with_reducible assumption) | assumption); obtain ⟨ad1235, e1235, hx1235_0⟩ := Kd.at_int (Kd.R_reads' HO1229.out).2.2 2 p1235 q1235; obtain rfl : ad1233 = ad1235 := (by injection e1235); (try simp only [show (2 : Int).toNat = 2 from rfl, Nat.reduceMul, Nat.reduceEqDiff, Go.Addr.add, ↓reduceIte] at hx1235_0); have qi1235 : (2 < t1227.length) = True := eq_true (by omega); (try rw [show ((2 : Int)).toNat = 2 from rfl] at hx1235_0); have hn1235_0 : ad1233.block ≠ gb1232 := Kd.own_blk (Kd.R_ne HO1229.out BK1232.out (by decide)); replace hx1235_0 := (cell_put7 (p := gb1232) (by first | (rw [add_block]; exact hn1235_0) | (show (Addr.add _ _).block ≠ _; rw [add_block]; exact hn1235_0) | exact hn1235_0) t1231).trans hx1235_0; clear hn1235_0; replace p1235 := eq_true p1235; replace q1235 := eq_true q1235))
                go_ret
                exact ⟨by first | rfl | (simp [errW_none, errW_some] <;> rfl) | (simp [*, errW_none, errW_some] <;> rfl), by repeat (first | (with_reducible first | exact HB.out | apply below_alloc | apply pw_below_drewN | apply below_drew1 | refine below_set ?_ GE1232.out) | exact HB.out)⟩
            · rw [if_neg c10] at H
              exact absurd H (by simp)
          · rw [if_neg c9] at H
            have c9b0 : ((rd t1227 1) == 68) = false := beq_eq_false_iff_ne.mpr c9
            have c9b1 : ((rd t1227 1) != 68) = true := bne_iff_ne.mpr c9
            obtain rfl := Option.some.inj H
            go_enter Try.func71, Try.ntmps71
            go_wp2_with (first | ((with_reducible refine gate_callee (f := 69) rfl ?_); refine goesL_ (some 3) rfl rfl Try.func69 (by kernel_rfl) rfl #[.int .i64 (-1)] rfl (by (try simp only [List.map_toArray, List.map_cons, List.map_nil]); first | done | rfl | (simp only [List.length_drop, List.length_take]; rfl)) ?_; (with_reducible refine (scalar_Int.calls k (-1) t1226 _ A1.out).mono ?_); rintro e w41 ⟨rfl, hb⟩; refine ⟨_, rfl, ?_⟩; have n0_ := Aside0.mk (below_step (by repeat (first | (with_reducible first | exact HB.out | apply below_alloc | apply pw_below_drewN | apply below_drew1) | exact HB.out)) hb); clear HB; have HB := n0_; clear n0_; (try clear hb); (try clear hb2); (try clear hk); (try clear hi)) | ((with_reducible refine gate_callee (f := 89) rfl ?_); refine goesL_ (some 4) rfl rfl Try.func89 (by kernel_rfl) rfl #[.agg (sv t1226)] rfl (by (try simp only [List.map_toArray, List.map_cons, List.map_nil]); first | done | rfl | (simp only [List.length_drop, List.length_take]; rfl)) ?_; (with_reducible refine (scalar_Bytes.calls k t1226 t1227 _ A2.out).mono ?_); rintro e w42 ⟨v1228, rfl, ho0, hb⟩; refine ⟨_, rfl, ?_⟩; have n0_ := Aside0.mk (Kd.R_lower ho0 (below_size (by repeat (first | (with_reducible first | exact HB.out | apply below_alloc | apply pw_below_drewN | apply below_drew1) | exact HB.out)))); have n1_ := Aside0.mk (below_step (by repeat (first | (with_reducible first | exact HB.out | apply below_alloc | apply pw_below_drewN | apply below_drew1) | exact HB.out)) hb); clear HB; have HO1229 := n0_; have HB := n1_; clear n0_ n1_; (try clear hb); (try clear hb2); (try clear hk); (try clear hi); (try clear ho0)) | ((with_reducible refine gate_callee (f := 69) rfl ?_); refine goesL_ (some 5) rfl rfl Try.func69 (by kernel_rfl) rfl #[.int .i64 1] rfl (by (try simp only [List.map_toArray, List.map_cons, List.map_nil]); first | done | rfl | (simp only [List.length_drop, List.length_take]; rfl)) ?_; (with_reducible refine (scalar_Int.calls k 1 t1230 _ A3.out).mono ?_); rintro e w43 ⟨rfl, hb⟩; refine ⟨_, rfl, ?_⟩; have n0_ := Aside0.mk (Kd.R_below (by (with_reducible repeat (first | apply Kd.R_alloc | apply Kd.R_drewN | apply Kd.R_drew)); exact HO1229.out) hb); have n1_ := Aside0.mk (below_step (by repeat (first | (with_reducible first | exact HB.out | apply below_alloc | apply pw_below_drewN | apply below_drew1) | exact HB.out)) hb); clear HO1229; clear HB; have HO1229 := n0_; have HB := n1_; clear n0_ n1_; (try clear hb); (try clear hb2); (try clear hk); (try clear hi)) | ((with_reducible refine gate_callee (f := 74) rfl ?_); refine goesL_ (some 6) rfl rfl Try.func74 (by kernel_rfl) rfl #[.agg (sv t1230)] rfl (by (try simp only [List.map_toArray, List.map_cons, List.map_nil]); first | done | rfl | (simp only [List.length_drop, List.length_take]; rfl)) ?_; (with_reducible refine (scalar_Half.calls k t1230 t1231 _ A4.out).mono ?_); rintro e w44 ⟨rfl, hb⟩; refine ⟨_, rfl, ?_⟩; have n0_ := Aside0.mk (Kd.R_below (by (with_reducible repeat (first | apply Kd.R_alloc | apply Kd.R_drewN | apply Kd.R_drew)); exact HO1229.out) hb); have n1_ := Aside0.mk (below_step (by repeat (first | (with_reducible first | exact HB.out | apply below_alloc | apply pw_below_drewN | apply below_drew1) | exact HB.out)) hb); clear HO1229; clear HB; have HO1229 := n0_; have HB := n1_; clear n0_ n1_; (try clear hb); (try clear hb2); (try clear hk); (try clear hi)) | ((with_reducible refine gate_dst (N := 2) rfl ?_); refine box_event ?hg (N := 2) ?hd (cs := zv) (t := 73) ?hr ?_; (case hd => rfl); (case hg => rfl); (case hr => first | (go_simp; done) | (go_simp; rfl)); intro gb1232 hg w45 hbox hb; have n0_ := Aside0.mk (Kd.R_below (by (with_reducible repeat (first | apply Kd.R_alloc | apply Kd.R_drewN | apply Kd.R_drew)); exact HO1229.out) hb); have n1_ := Aside0.mk (below_step (by repeat (first | (with_reducible first | exact HB.out | apply below_alloc | apply pw_below_drewN | apply below_drew1) | exact HB.out)) hb); have n2_ := Aside0.mk (hbox); have n3_ := Aside0.mk ((by rw [hg]; exact (below_size (by repeat (first | (with_reducible first | exact HB.out | apply below_alloc | apply pw_below_drewN | apply below_drew1) | exact HB.out))) : w.heap.size ≤ gb1232)); have n4_ := Aside0.mk ((by rw [hg]; exact (below_size (by repeat (first | (with_reducible first | exact HB.out | apply below_alloc | apply pw_below_drewN | apply below_drew1) | exact HB.out))) : w.heap.size ≤ gb1232)); clear HO1229; clear HB; have HO1229 := n0_; have HB := n1_; have BK1232 := n2_; have GW1232 := n3_; have GE1232 := n4_; clear n0_ n1_ n2_ n3_ n4_; clear hb hbox hg; obtain ⟨hcz46_0, hcz46_0_c1, hcz46_0_c2, hcz46_0_c3, hcz46_0_c4, hcz46_0_c5, hcz46_0_c6⟩ := c7_of (a := z7) BK1232.out rfl; obtain ⟨hfz46_0, hfz46_0_c1, hfz46_0_c2, hfz46_0_c3, hfz46_0_c4, hfz46_0_c5, hfz46_0_c6⟩ := fz7 BK1232.out; obtain ⟨Ao47, co47, eo47⟩ := Kd.R_slice HO1229.out; subst eo47; have p1233 : 0 ≤ (0 : Int) := (by omega); have q1233 : 0 < (t1227.length : Int) := of_decide_eq_true (by first | (with_reducible assumption) | assumption); obtain ⟨ad1233, e1233, hx1233_0⟩ := Kd.at_int (Kd.R_reads' HO1229.out).2.2 0 p1233 q1233; cases e1233; have qi1233 : (0 < t1227.length) = True := eq_true (by omega); (try rw [show ((0 : Int)).toNat = 0 from rfl] at hx1233_0); (try rw [Addr.add_zero'] at hx1233_0); have hn1233_0 : ad1233.block ≠ gb1232 := Kd.own_blk (Kd.R_ne HO1229.out BK1232.out (by decide)); replace hx1233_0 := (cell_put7 (p := gb1232) (by first | (rw [add_block]; exact hn1233_0) | (show (Addr.add _ _).block ≠ _; rw [add_block]; exact hn1233_0) | exact hn1233_0) t1231).trans hx1233_0; clear hn1233_0; replace p1233 := eq_true p1233; replace q1233 := eq_true q1233; have p1234 : 0 ≤ (1 : Int) := (by omega); have q1234 : 1 < (t1227.length : Int) := of_decide_eq_true (by first | (with_reducible assumption) | assumption); obtain ⟨ad1234, e1234, hx1234_0⟩ := Kd.at_int (Kd.R_reads' HO1229.out).2.2 1 p1234 q1234; obtain rfl : ad1233 = ad1234 := (by injection e1234); (try simp only [show (1 : Int).toNat = 1 from rfl, Nat.reduceMul, Nat.reduceEqDiff, Go.Addr.add, ↓reduceIte] at hx1234_0); have qi1234 : (1 < t1227.length) = True := eq_true (by omega); (try rw [show ((1 : Int)).toNat = 1 from rfl] at hx1234_0); have hn1234_0 : ad1233.block ≠ gb1232 := Kd.own_blk (Kd.R_ne HO1229.out BK1232.out (by decide)); replace hx1234_0 := (cell_put7 (p := gb1232) (by first | (rw [add_block]; exact hn1234_0) | (show (Addr.add _ _).block ≠ _; rw [add_block]; exact hn1234_0) | exact hn1234_0) t1231).trans hx1234_0; clear hn1234_0; replace p1234 := eq_true p1234; replace q1234 := eq_true q1234))
            go_ret
            exact ⟨by first | rfl | (simp [errW_none, errW_some] <;> rfl) | (simp [*, errW_none, errW_some] <;> rfl), by repeat (first | (with_reducible first | exact HB.out | apply below_alloc | apply pw_below_drewN | apply below_drew1 | refine below_set ?_ GE1232.out) | exact HB.out)⟩
        · rw [if_neg c8] at H
          exact absurd H (by simp)
      · rw [if_neg c7] at H
        have c7b0 : ((rd t1227 0) == 242) = false := beq_eq_false_iff_ne.mpr c7
        have c7b1 : ((rd t1227 0) != 242) = true := bne_iff_ne.mpr c7
        obtain rfl := Option.some.inj H
        go_enter Try.func71, Try.ntmps71
        go_wp2_with (first | ((with_reducible refine gate_callee (f := 69) rfl ?_); refine goesL_ (some 3) rfl rfl Try.func69 (by kernel_rfl) rfl #[.int .i64 (-1)] rfl (by (try simp only [List.map_toArray, List.map_cons, List.map_nil]); first | done | rfl | (simp only [List.length_drop, List.length_take]; rfl)) ?_; (with_reducible refine (scalar_Int.calls k (-1) t1226 _ A1.out).mono ?_); rintro e w48 ⟨rfl, hb⟩; refine ⟨_, rfl, ?_⟩; have n0_ := Aside0.mk (below_step (by repeat (first | (with_reducible first | exact HB.out | apply below_alloc | apply pw_below_drewN | apply below_drew1) | exact HB.out)) hb); clear HB; have HB := n0_; clear n0_; (try clear hb); (try clear hb2); (try clear hk); (try clear hi)) | ((with_reducible refine gate_callee (f := 89) rfl ?_); refine goesL_ (some 4) rfl rfl Try.func89 (by kernel_rfl) rfl #[.agg (sv t1226)] rfl (by (try simp only [List.map_toArray, List.map_cons, List.map_nil]); first | done | rfl | (simp only [List.length_drop, List.length_take]; rfl)) ?_; (with_reducible refine (scalar_Bytes.calls k t1226 t1227 _ A2.out).mono ?_); rintro e w49 ⟨v1228, rfl, ho0, hb⟩; refine ⟨_, rfl, ?_⟩; have n0_ := Aside0.mk (Kd.R_lower ho0 (below_size (by repeat (first | (with_reducible first | exact HB.out | apply below_alloc | apply pw_below_drewN | apply below_drew1) | exact HB.out)))); have n1_ := Aside0.mk (below_step (by repeat (first | (with_reducible first | exact HB.out | apply below_alloc | apply pw_below_drewN | apply below_drew1) | exact HB.out)) hb); clear HB; have HO1229 := n0_; have HB := n1_; clear n0_ n1_; (try clear hb); (try clear hb2); (try clear hk); (try clear hi); (try clear ho0)) | ((with_reducible refine gate_callee (f := 69) rfl ?_); refine goesL_ (some 5) rfl rfl Try.func69 (by kernel_rfl) rfl #[.int .i64 1] rfl (by (try simp only [List.map_toArray, List.map_cons, List.map_nil]); first | done | rfl | (simp only [List.length_drop, List.length_take]; rfl)) ?_; (with_reducible refine (scalar_Int.calls k 1 t1230 _ A3.out).mono ?_); rintro e w50 ⟨rfl, hb⟩; refine ⟨_, rfl, ?_⟩; have n0_ := Aside0.mk (Kd.R_below (by (with_reducible repeat (first | apply Kd.R_alloc | apply Kd.R_drewN | apply Kd.R_drew)); exact HO1229.out) hb); have n1_ := Aside0.mk (below_step (by repeat (first | (with_reducible first | exact HB.out | apply below_alloc | apply pw_below_drewN | apply below_drew1) | exact HB.out)) hb); clear HO1229; clear HB; have HO1229 := n0_; have HB := n1_; clear n0_ n1_; (try clear hb); (try clear hb2); (try clear hk); (try clear hi)) | ((with_reducible refine gate_callee (f := 74) rfl ?_); refine goesL_ (some 6) rfl rfl Try.func74 (by kernel_rfl) rfl #[.agg (sv t1230)] rfl (by (try simp only [List.map_toArray, List.map_cons, List.map_nil]); first | done | rfl | (simp only [List.length_drop, List.length_take]; rfl)) ?_; (with_reducible refine (scalar_Half.calls k t1230 t1231 _ A4.out).mono ?_); rintro e w51 ⟨rfl, hb⟩; refine ⟨_, rfl, ?_⟩; have n0_ := Aside0.mk (Kd.R_below (by (with_reducible repeat (first | apply Kd.R_alloc | apply Kd.R_drewN | apply Kd.R_drew)); exact HO1229.out) hb); have n1_ := Aside0.mk (below_step (by repeat (first | (with_reducible first | exact HB.out | apply below_alloc | apply pw_below_drewN | apply below_drew1) | exact HB.out)) hb); clear HO1229; clear HB; have HO1229 := n0_; have HB := n1_; clear n0_ n1_; (try clear hb); (try clear hb2); (try clear hk); (try clear hi)) | ((with_reducible refine gate_dst (N := 2) rfl ?_); refine box_event ?hg (N := 2) ?hd (cs := zv) (t := 73) ?hr ?_; (case hd => rfl); (case hg => rfl); (case hr => first | (go_simp; done) | (go_simp; rfl)); intro gb1232 hg w52 hbox hb; have n0_ := Aside0.mk (Kd.R_below (by (with_reducible repeat (first | apply Kd.R_alloc | apply Kd.R_drewN | apply Kd.R_drew)); exact HO1229.out) hb); have n1_ := Aside0.mk (below_step (by repeat (first | (with_reducible first | exact HB.out | apply below_alloc | apply pw_below_drewN | apply below_drew1) | exact HB.out)) hb); have n2_ := Aside0.mk (hbox); have n3_ := Aside0.mk ((by rw [hg]; exact (below_size (by repeat (first | (with_reducible first | exact HB.out | apply below_alloc | apply pw_below_drewN | apply below_drew1) | exact HB.out))) : w.heap.size ≤ gb1232)); have n4_ := Aside0.mk ((by rw [hg]; exact (below_size (by repeat (first | (with_reducible first | exact HB.out | apply below_alloc | apply pw_below_drewN | apply below_drew1) | exact HB.out))) : w.heap.size ≤ gb1232)); clear HO1229; clear HB; have HO1229 := n0_; have HB := n1_; have BK1232 := n2_; have GW1232 := n3_; have GE1232 := n4_; clear n0_ n1_ n2_ n3_ n4_; clear hb hbox hg; obtain ⟨hcz53_0, hcz53_0_c1, hcz53_0_c2, hcz53_0_c3, hcz53_0_c4, hcz53_0_c5, hcz53_0_c6⟩ := c7_of (a := z7) BK1232.out rfl; obtain ⟨hfz53_0, hfz53_0_c1, hfz53_0_c2, hfz53_0_c3, hfz53_0_c4, hfz53_0_c5, hfz53_0_c6⟩ := fz7 BK1232.out; obtain ⟨Ao54, co54, eo54⟩ := Kd.R_slice HO1229.out; subst eo54; have p1233 : 0 ≤ (0 : Int) := (by omega); have q1233 : 0 < (t1227.length : Int) := of_decide_eq_true (by first | (with_reducible assumption) | assumption); obtain ⟨ad1233, e1233, hx1233_0⟩ := Kd.at_int (Kd.R_reads' HO1229.out).2.2 0 p1233 q1233; cases e1233; have qi1233 : (0 < t1227.length) = True := eq_true (by omega); (try rw [show ((0 : Int)).toNat = 0 from rfl] at hx1233_0); (try rw [Addr.add_zero'] at hx1233_0); have hn1233_0 : ad1233.block ≠ gb1232 := Kd.own_blk (Kd.R_ne HO1229.out BK1232.out (by decide)); replace hx1233_0 := (cell_put7 (p := gb1232) (by first | (rw [add_block]; exact hn1233_0) | (show (Addr.add _ _).block ≠ _; rw [add_block]; exact hn1233_0) | exact hn1233_0) t1231).trans hx1233_0; clear hn1233_0; replace p1233 := eq_true p1233; replace q1233 := eq_true q1233))
        go_ret
        exact ⟨by first | rfl | (simp [errW_none, errW_some] <;> rfl) | (simp [*, errW_none, errW_some] <;> rfl), by repeat (first | (with_reducible first | exact HB.out | apply below_alloc | apply pw_below_drewN | apply below_drew1 | refine below_set ?_ GE1232.out) | exact HB.out)⟩
    · rw [if_neg c6] at H
      exact absurd H (by simp)
  · rw [if_neg c5] at H
    have c5b0 : ((t1227.length : Int) == 57) = false := beq_eq_false_iff_ne.mpr c5
    have c5b1 : ((t1227.length : Int) != 57) = true := bne_iff_ne.mpr c5
    obtain rfl := Option.some.inj H
    go_enter Try.func71, Try.ntmps71
    go_wp2_with (first | ((with_reducible refine gate_callee (f := 69) rfl ?_); refine goesL_ (some 3) rfl rfl Try.func69 (by kernel_rfl) rfl #[.int .i64 (-1)] rfl (by (try simp only [List.map_toArray, List.map_cons, List.map_nil]); first | done | rfl | (simp only [List.length_drop, List.length_take]; rfl)) ?_; (with_reducible refine (scalar_Int.calls k (-1) t1226 _ A1.out).mono ?_); rintro e w55 ⟨rfl, hb⟩; refine ⟨_, rfl, ?_⟩; have n0_ := Aside0.mk (below_step (by repeat (first | (with_reducible first | exact HB.out | apply below_alloc | apply pw_below_drewN | apply below_drew1) | exact HB.out)) hb); clear HB; have HB := n0_; clear n0_; (try clear hb); (try clear hb2); (try clear hk); (try clear hi)) | ((with_reducible refine gate_callee (f := 89) rfl ?_); refine goesL_ (some 4) rfl rfl Try.func89 (by kernel_rfl) rfl #[.agg (sv t1226)] rfl (by (try simp only [List.map_toArray, List.map_cons, List.map_nil]); first | done | rfl | (simp only [List.length_drop, List.length_take]; rfl)) ?_; (with_reducible refine (scalar_Bytes.calls k t1226 t1227 _ A2.out).mono ?_); rintro e w56 ⟨v1228, rfl, ho0, hb⟩; refine ⟨_, rfl, ?_⟩; have n0_ := Aside0.mk (Kd.R_lower ho0 (below_size (by repeat (first | (with_reducible first | exact HB.out | apply below_alloc | apply pw_below_drewN | apply below_drew1) | exact HB.out)))); have n1_ := Aside0.mk (below_step (by repeat (first | (with_reducible first | exact HB.out | apply below_alloc | apply pw_below_drewN | apply below_drew1) | exact HB.out)) hb); clear HB; have HO1229 := n0_; have HB := n1_; clear n0_ n1_; (try clear hb); (try clear hb2); (try clear hk); (try clear hi); (try clear ho0)) | ((with_reducible refine gate_callee (f := 69) rfl ?_); refine goesL_ (some 5) rfl rfl Try.func69 (by kernel_rfl) rfl #[.int .i64 1] rfl (by (try simp only [List.map_toArray, List.map_cons, List.map_nil]); first | done | rfl | (simp only [List.length_drop, List.length_take]; rfl)) ?_; (with_reducible refine (scalar_Int.calls k 1 t1230 _ A3.out).mono ?_); rintro e w57 ⟨rfl, hb⟩; refine ⟨_, rfl, ?_⟩; have n0_ := Aside0.mk (Kd.R_below (by (with_reducible repeat (first | apply Kd.R_alloc | apply Kd.R_drewN | apply Kd.R_drew)); exact HO1229.out) hb); have n1_ := Aside0.mk (below_step (by repeat (first | (with_reducible first | exact HB.out | apply below_alloc | apply pw_below_drewN | apply below_drew1) | exact HB.out)) hb); clear HO1229; clear HB; have HO1229 := n0_; have HB := n1_; clear n0_ n1_; (try clear hb); (try clear hb2); (try clear hk); (try clear hi)) | ((with_reducible refine gate_callee (f := 74) rfl ?_); refine goesL_ (some 6) rfl rfl Try.func74 (by kernel_rfl) rfl #[.agg (sv t1230)] rfl (by (try simp only [List.map_toArray, List.map_cons, List.map_nil]); first | done | rfl | (simp only [List.length_drop, List.length_take]; rfl)) ?_; (with_reducible refine (scalar_Half.calls k t1230 t1231 _ A4.out).mono ?_); rintro e w58 ⟨rfl, hb⟩; refine ⟨_, rfl, ?_⟩; have n0_ := Aside0.mk (Kd.R_below (by (with_reducible repeat (first | apply Kd.R_alloc | apply Kd.R_drewN | apply Kd.R_drew)); exact HO1229.out) hb); have n1_ := Aside0.mk (below_step (by repeat (first | (with_reducible first | exact HB.out | apply below_alloc | apply pw_below_drewN | apply below_drew1) | exact HB.out)) hb); clear HO1229; clear HB; have HO1229 := n0_; have HB := n1_; clear n0_ n1_; (try clear hb); (try clear hb2); (try clear hk); (try clear hi)) | ((with_reducible refine gate_dst (N := 2) rfl ?_); refine box_event ?hg (N := 2) ?hd (cs := zv) (t := 73) ?hr ?_; (case hd => rfl); (case hg => rfl); (case hr => first | (go_simp; done) | (go_simp; rfl)); intro gb1232 hg w59 hbox hb; have n0_ := Aside0.mk (Kd.R_below (by (with_reducible repeat (first | apply Kd.R_alloc | apply Kd.R_drewN | apply Kd.R_drew)); exact HO1229.out) hb); have n1_ := Aside0.mk (below_step (by repeat (first | (with_reducible first | exact HB.out | apply below_alloc | apply pw_below_drewN | apply below_drew1) | exact HB.out)) hb); have n2_ := Aside0.mk (hbox); have n3_ := Aside0.mk ((by rw [hg]; exact (below_size (by repeat (first | (with_reducible first | exact HB.out | apply below_alloc | apply pw_below_drewN | apply below_drew1) | exact HB.out))) : w.heap.size ≤ gb1232)); have n4_ := Aside0.mk ((by rw [hg]; exact (below_size (by repeat (first | (with_reducible first | exact HB.out | apply below_alloc | apply pw_below_drewN | apply below_drew1) | exact HB.out))) : w.heap.size ≤ gb1232)); clear HO1229; clear HB; have HO1229 := n0_; have HB := n1_; have BK1232 := n2_; have GW1232 := n3_; have GE1232 := n4_; clear n0_ n1_ n2_ n3_ n4_; clear hb hbox hg; obtain ⟨hcz60_0, hcz60_0_c1, hcz60_0_c2, hcz60_0_c3, hcz60_0_c4, hcz60_0_c5, hcz60_0_c6⟩ := c7_of (a := z7) BK1232.out rfl; obtain ⟨hfz60_0, hfz60_0_c1, hfz60_0_c2, hfz60_0_c3, hfz60_0_c4, hfz60_0_c5, hfz60_0_c6⟩ := fz7 BK1232.out; obtain ⟨Ao61, co61, eo61⟩ := Kd.R_slice HO1229.out; subst eo61))
    go_ret
    exact ⟨by first | rfl | (simp [errW_none, errW_some] <;> rfl) | (simp [*, errW_none, errW_some] <;> rfl), by repeat (first | (with_reducible first | exact HB.out | apply below_alloc | apply pw_below_drewN | apply below_drew1 | refine below_set ?_ GE1232.out) | exact HB.out)⟩
end Go.Proofs.Ytdaehflffecllaa.N
