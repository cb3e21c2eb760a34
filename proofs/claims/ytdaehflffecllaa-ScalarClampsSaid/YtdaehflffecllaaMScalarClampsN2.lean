/- The law ScalarClamps returns true whatever the input: N2 of its proof; no condition. (Joined by wip/shake.py.) -/
import Derived.Test.YtdaehflffecllaaMScalarClampsNx0
import Derived.Test.YtdaehflffecllaaMScalarClampsN1
import Derived.Test.YtdaehflffecllaaMScalarClampsN0
namespace Go.Proofs.Ytdaehflffecllaa.N
open Go.RowKit Go.Proofs.YtdaehflffecllaaW.PrintWords Go.Proofs.YtdaehflffecllaaW.PrintLast Go.Proofs.YtdaehflffecllaaW.PrintMore
attribute [local go_sem] max2_int min2_int max_two min_two max_three min_three max_four min_four   -- for this text's walks alone
set_option linter.unusedVariables false
set_option linter.unusedSimpArgs false
def chicorylaw06_awake.f (k : Nat)  : Option (Bool) := (scalar_Int.f k (-1)).bind fun t1226 => ((scalar_Bytes.f k t1226).bind fun t1227 => ((scalar_Int.f k 1).bind fun t1230 => ((scalar_Half.f k t1230).bind fun t1231 => (if (t1227.length : Int) = 57 then (if 0 < (t1227.length : Int) then (if (rd t1227 0) = 242 then (if 1 < (t1227.length : Int) then (if (rd t1227 1) = 68 then (if 2 < (t1227.length : Int) then (if (rd t1227 2) = 88 then (if 3 < (t1227.length : Int) then (if (rd t1227 3) = 171 then ((scalar_Add.f k t1231 t1231).bind fun t1237 => ((scalar_Int.f k 1).bind fun t1238 => ((scalar_Equal.f k t1237 t1238).bind fun t1239 => (some t1239)))) else (some false)) else (none)) else (some false)) else (none)) else (some false)) else (none)) else (some false)) else (none)) else (some false)))))
theorem chicorylaw06_awake.mono : ∀ k, LeO (chicorylaw06_awake.f k ) (chicorylaw06_awake.f (k + 1) ) := by
  intro  k
  unfold chicorylaw06_awake.f
  repeat' first
      | (with_reducible exact scalar_Add.mono _ _ _)
      | (with_reducible exact scalar_Bytes.mono _ _)
      | (with_reducible exact scalar_Equal.mono _ _ _)
      | (with_reducible exact scalar_Half.mono _ _)
      | (with_reducible exact scalar_Int.mono _ _)
      | (with_reducible exact LeO.refl _)
      | (with_reducible exact LeO.none _)
      | (with_reducible refine LeO.ite ?_ ?_)
      | (with_reducible refine LeO.bind ?_ (fun _ => ?_))
      | exact scalar_Add.mono _ _ _
      | exact scalar_Bytes.mono _ _
      | exact scalar_Equal.mono _ _ _
      | exact scalar_Half.mono _ _
      | exact scalar_Int.mono _ _
      | exact LeO.none _
      | refine LeO.ite ?_ ?_
      | refine LeO.bind ?_ (fun _ => ?_)
set_option maxHeartbeats 8000000 in
set_option maxRecDepth 100000 in
theorem chicorylaw06_awake.calls (k : Nat)  (r : Bool) (w : World) (h : chicorylaw06_awake.f k  = some r) :
    Calls Try.prog 71 #[] w fun e w' => e = .returned (.bool r) ∧ Below w.heap.size w w' := by
  have hu73 := Try.underlying73
  have HB := Aside0.mk (Below.refl w.heap.size w)
  have H : ((scalar_Int.f k (-1)).bind fun t1226 => ((scalar_Bytes.f k t1226).bind fun t1227 => ((scalar_Int.f k 1).bind fun t1230 => ((scalar_Half.f k t1230).bind fun t1231 => (if (t1227.length : Int) = 57 then (if 0 < (t1227.length : Int) then (if (rd t1227 0) = 242 then (if 1 < (t1227.length : Int) then (if (rd t1227 1) = 68 then (if 2 < (t1227.length : Int) then (if (rd t1227 2) = 88 then (if 3 < (t1227.length : Int) then (if (rd t1227 3) = 171 then ((scalar_Add.f k t1231 t1231).bind fun t1237 => ((scalar_Int.f k 1).bind fun t1238 => ((scalar_Equal.f k t1237 t1238).bind fun t1239 => (some t1239)))) else (some false)) else (none)) else (some false)) else (none)) else (some false)) else (none)) else (some false)) else (none)) else (some false)))))) = some r := h
  clear h
  replace H := Option.bind_eq_some_iff.mp H
  obtain ⟨t1226, A10, H⟩ := H
  replace H : ((scalar_Bytes.f k t1226).bind fun t1227 => ((scalar_Int.f k 1).bind fun t1230 => ((scalar_Half.f k t1230).bind fun t1231 => (if (t1227.length : Int) = 57 then (if 0 < (t1227.length : Int) then (if (rd t1227 0) = 242 then (if 1 < (t1227.length : Int) then (if (rd t1227 1) = 68 then (if 2 < (t1227.length : Int) then (if (rd t1227 2) = 88 then (if 3 < (t1227.length : Int) then (if (rd t1227 3) = 171 then ((scalar_Add.f k t1231 t1231).bind fun t1237 => ((scalar_Int.f k 1).bind fun t1238 => ((scalar_Equal.f k t1237 t1238).bind fun t1239 => (some t1239)))) else (some false)) else (none)) else (some false)) else (none)) else (some false)) else (none)) else (some false)) else (none)) else (some false))))) = some r := H
  have A1 := Aside0.mk A10
  clear A10
  replace H := Option.bind_eq_some_iff.mp H
  obtain ⟨t1227, A20, H⟩ := H
  replace H : ((scalar_Int.f k 1).bind fun t1230 => ((scalar_Half.f k t1230).bind fun t1231 => (if (t1227.length : Int) = 57 then (if 0 < (t1227.length : Int) then (if (rd t1227 0) = 242 then (if 1 < (t1227.length : Int) then (if (rd t1227 1) = 68 then (if 2 < (t1227.length : Int) then (if (rd t1227 2) = 88 then (if 3 < (t1227.length : Int) then (if (rd t1227 3) = 171 then ((scalar_Add.f k t1231 t1231).bind fun t1237 => ((scalar_Int.f k 1).bind fun t1238 => ((scalar_Equal.f k t1237 t1238).bind fun t1239 => (some t1239)))) else (some false)) else (none)) else (some false)) else (none)) else (some false)) else (none)) else (some false)) else (none)) else (some false)))) = some r := H
  have A2 := Aside0.mk A20
  clear A20
  replace H := Option.bind_eq_some_iff.mp H
  obtain ⟨t1230, A30, H⟩ := H
  replace H : ((scalar_Half.f k t1230).bind fun t1231 => (if (t1227.length : Int) = 57 then (if 0 < (t1227.length : Int) then (if (rd t1227 0) = 242 then (if 1 < (t1227.length : Int) then (if (rd t1227 1) = 68 then (if 2 < (t1227.length : Int) then (if (rd t1227 2) = 88 then (if 3 < (t1227.length : Int) then (if (rd t1227 3) = 171 then ((scalar_Add.f k t1231 t1231).bind fun t1237 => ((scalar_Int.f k 1).bind fun t1238 => ((scalar_Equal.f k t1237 t1238).bind fun t1239 => (some t1239)))) else (some false)) else (none)) else (some false)) else (none)) else (some false)) else (none)) else (some false)) else (none)) else (some false))) = some r := H
  have A3 := Aside0.mk A30
  clear A30
  replace H := Option.bind_eq_some_iff.mp H
  obtain ⟨t1231, A40, H⟩ := H
  replace H : (if (t1227.length : Int) = 57 then (if 0 < (t1227.length : Int) then (if (rd t1227 0) = 242 then (if 1 < (t1227.length : Int) then (if (rd t1227 1) = 68 then (if 2 < (t1227.length : Int) then (if (rd t1227 2) = 88 then (if 3 < (t1227.length : Int) then (if (rd t1227 3) = 171 then ((scalar_Add.f k t1231 t1231).bind fun t1237 => ((scalar_Int.f k 1).bind fun t1238 => ((scalar_Equal.f k t1237 t1238).bind fun t1239 => (some t1239)))) else (some false)) else (none)) else (some false)) else (none)) else (some false)) else (none)) else (some false)) else (none)) else (some false)) = some r := H
  have A4 := Aside0.mk A40
  clear A40
  by_cases c5 : (t1227.length : Int) = 57
  · rw [if_pos c5] at H
    have c5b0 : ((t1227.length : Int) == 57) = true := beq_iff_eq.mpr c5
    have c5b1 : ((t1227.length : Int) != 57) = false := bne_eq_false_iff_eq.mpr c5
    clear c5
    by_cases c6 : 0 < (t1227.length : Int)
    · rw [if_pos c6] at H
      have c6b0 : decide (0 < (t1227.length : Int)) = true := decide_eq_true c6
      have c6b1 : decide (0 < t1227.length) = true := decide_eq_true (by omega)
      clear c6
      by_cases c7 : (rd t1227 0) = 242
      · rw [if_pos c7] at H
        have c7b0 : ((rd t1227 0) == 242) = true := beq_iff_eq.mpr c7
        have c7b1 : ((rd t1227 0) != 242) = false := bne_eq_false_iff_eq.mpr c7
        clear c7
        by_cases c8 : 1 < (t1227.length : Int)
        · rw [if_pos c8] at H
          have c8b0 : decide (1 < (t1227.length : Int)) = true := decide_eq_true c8
          have c8b1 : decide (1 < t1227.length) = true := decide_eq_true (by omega)
          clear c8
          by_cases c9 : (rd t1227 1) = 68
          · rw [if_pos c9] at H
            have c9b0 : ((rd t1227 1) == 68) = true := beq_iff_eq.mpr c9
            have c9b1 : ((rd t1227 1) != 68) = false := bne_eq_false_iff_eq.mpr c9
            clear c9
            by_cases c10 : 2 < (t1227.length : Int)
            · rw [if_pos c10] at H
              have c10b0 : decide (2 < (t1227.length : Int)) = true := decide_eq_true c10
              have c10b1 : decide (2 < t1227.length) = true := decide_eq_true (by omega)
              clear c10
              by_cases c11 : (rd t1227 2) = 88
              · rw [if_pos c11] at H
                have c11b0 : ((rd t1227 2) == 88) = true := beq_iff_eq.mpr c11
                have c11b1 : ((rd t1227 2) != 88) = false := bne_eq_false_iff_eq.mpr c11
                clear c11
                by_cases c12 : 3 < (t1227.length : Int)
                · rw [if_pos c12] at H
                  have c12b0 : decide (3 < (t1227.length : Int)) = true := decide_eq_true c12
                  have c12b1 : decide (3 < t1227.length) = true := decide_eq_true (by omega)
                  clear c12
                  by_cases c13 : (rd t1227 3) = 171
                  · rw [if_pos c13] at H
                    have c13b0 : ((rd t1227 3) == 171) = true := beq_iff_eq.mpr c13
                    have c13b1 : ((rd t1227 3) != 171) = false := bne_eq_false_iff_eq.mpr c13
                    clear c13
                    replace H := Option.bind_eq_some_iff.mp H
                    obtain ⟨t1237, A140, H⟩ := H
                    replace H : ((scalar_Int.f k 1).bind fun t1238 => ((scalar_Equal.f k t1237 t1238).bind fun t1239 => (some t1239))) = some r := H
                    have A14 := Aside0.mk A140
                    clear A140
                    replace H := Option.bind_eq_some_iff.mp H
                    obtain ⟨t1238, A150, H⟩ := H
                    replace H : ((scalar_Equal.f k t1237 t1238).bind fun t1239 => (some t1239)) = some r := H
                    have A15 := Aside0.mk A150
                    clear A150
                    replace H := Option.bind_eq_some_iff.mp H
                    obtain ⟨t1239, A160, H⟩ := H
                    replace H : (some t1239) = some r := H
                    have A16 := Aside0.mk A160
                    clear A160
                    obtain rfl := Option.some.inj H
                    go_enter Try.func71, Try.ntmps71
                    go_wp2_with (first | ((with_reducible refine gate_callee (f := 69) rfl ?_); refine goesL_ (some 3) rfl rfl Try.func69 (by kernel_rfl) rfl #[.int .i64 (-1)] rfl (by (try simp only [List.map_toArray, List.map_cons, List.map_nil]); first | done | rfl | (simp only [List.length_drop, List.length_take]; rfl)) ?_; (with_reducible refine (scalar_Int.calls k (-1) t1226 _ A1.out).mono ?_); rintro e w17 ⟨rfl, hb⟩; refine ⟨_, rfl, ?_⟩; have n0_ := Aside0.mk (below_step (by repeat (first | (with_reducible first | exact HB.out | apply below_alloc | apply pw_below_drewN | apply below_drew1) | exact HB.out)) hb); clear HB; have HB := n0_; clear n0_; (try clear hb); (try clear hb2); (try clear hk); (try clear hi)) | ((with_reducible refine gate_callee (f := 89) rfl ?_); refine goesL_ (some 4) rfl rfl Try.func89 (by kernel_rfl) rfl #[.agg (sv t1226)] rfl (by (try simp only [List.map_toArray, List.map_cons, List.map_nil]); first | done | rfl | (simp only [List.length_drop, List.length_take]; rfl)) ?_; (with_reducible refine (scalar_Bytes.calls k t1226 t1227 _ A2.out).mono ?_); rintro e w18 ⟨v1228, rfl, ho0, hb⟩; refine ⟨_, rfl, ?_⟩; have n0_ := Aside0.mk (Kd.R_lower ho0 (below_size (by repeat (first | (with_reducible first | exact HB.out | apply below_alloc | apply pw_below_drewN | apply below_drew1) | exact HB.out)))); have n1_ := Aside0.mk (below_step (by repeat (first | (with_reducible first | exact HB.out | apply below_alloc | apply pw_below_drewN | apply below_drew1) | exact HB.out)) hb); clear HB; have HO1229 := n0_; have HB := n1_; clear n0_ n1_; (try clear hb); (try clear hb2); (try clear hk); (try clear hi); (try clear ho0)) | ((with_reducible refine gate_callee (f := 69) rfl ?_); refine goesL_ (some 5) rfl rfl Try.func69 (by kernel_rfl) rfl #[.int .i64 1] rfl (by (try simp only [List.map_toArray, List.map_cons, List.map_nil]); first | done | rfl | (simp only [List.length_drop, List.length_take]; rfl)) ?_; (with_reducible refine (scalar_Int.calls k 1 t1230 _ A3.out).mono ?_); rintro e w19 ⟨rfl, hb⟩; refine ⟨_, rfl, ?_⟩; have n0_ := Aside0.mk (Kd.R_below (by (with_reducible repeat (first | apply Kd.R_alloc | apply Kd.R_drewN | apply Kd.R_drew)); exact HO1229.out) hb); have n1_ := Aside0.mk (below_step (by repeat (first | (with_reducible first | exact HB.out | apply below_alloc | apply pw_below_drewN | apply below_drew1) | exact HB.out)) hb); clear HO1229; clear HB; have HO1229 := n0_; have HB := n1_; clear n0_ n1_; (try clear hb); (try clear hb2); (try clear hk); (try clear hi)) | ((with_reducible refine gate_callee (f := 74) rfl ?_); refine goesL_ (some 6) rfl rfl Try.func74 (by kernel_rfl) rfl #[.agg (sv t1230)] rfl (by (try simp only [List.map_toArray, List.map_cons, List.map_nil]); first | done | rfl | (simp only [List.length_drop, List.length_take]; rfl)) ?_; (with_reducible refine (scalar_Half.calls k t1230 t1231 _ A4.out).mono ?_); rintro e w20 ⟨rfl, hb⟩; refine ⟨_, rfl, ?_⟩; have n0_ := Aside0.mk (Kd.R_below (by (with_reducible repeat (first | apply Kd.R_alloc | apply Kd.R_drewN | apply Kd.R_drew)); exact HO1229.out) hb); have n1_ := Aside0.mk (below_step (by repeat (first | (with_reducible first | exact HB.out | apply below_alloc | apply pw_below_drewN | apply below_drew1) | exact HB.out)) hb); clear HO1229; clear HB; have HO1229 := n0_; have HB := n1_; clear n0_ n1_; (try clear hb); (try clear hb2); (try clear hk); (try clear hi)) | ((with_reducible refine gate_dst (N := 2) rfl ?_); refine box_event ?hg (N := 2) ?hd (cs := zv) (t := 73) ?hr ?_; (case hd => rfl); (case hg => rfl); (case hr => first | (go_simp; done) | (go_simp; rfl)); intro gb1232 hg w21 hbox hb; have n0_ := Aside0.mk (Kd.R_below (by (with_reducible repeat (first | apply Kd.R_alloc | apply Kd.R_drewN | apply Kd.R_drew)); exact HO1229.out) hb); have n1_ := Aside0.mk (below_step (by repeat (first | (with_reducible first | exact HB.out | apply below_alloc | apply pw_below_drewN | apply below_drew1) | exact HB.out)) hb); have n2_ := Aside0.mk (hbox); have n3_ := Aside0.mk ((by rw [hg]; exact (below_size (by repeat (first | (with_reducible first | exact HB.out | apply below_alloc | apply pw_below_drewN | apply below_drew1) | exact HB.out))) : w.heap.size ≤ gb1232)); have n4_ := Aside0.mk ((by rw [hg]; exact (below_size (by repeat (first | (with_reducible first | exact HB.out | apply below_alloc | apply pw_below_drewN | apply below_drew1) | exact HB.out))) : w.heap.size ≤ gb1232)); clear HO1229; clear HB; have HO1229 := n0_; have HB := n1_; have BK1232 := n2_; have GW1232 := n3_; have GE1232 := n4_; clear n0_ n1_ n2_ n3_ n4_; clear hb hbox hg; obtain ⟨hcz22_0, hcz22_0_c1, hcz22_0_c2, hcz22_0_c3, hcz22_0_c4, hcz22_0_c5, hcz22_0_c6⟩ := c7_of (a := z7) BK1232.out rfl; obtain ⟨hfz22_0, hfz22_0_c1, hfz22_0_c2, hfz22_0_c3, hfz22_0_c4, hfz22_0_c5, hfz22_0_c6⟩ := fz7 BK1232.out; obtain ⟨Ao23, co23, eo23⟩ := Kd.R_slice HO1229.out; subst eo23; have p1233 : 0 ≤ (0 : Int) := (by omega); have q1233 : 0 < (t1227.length : Int) := of_decide_eq_true (by first | (with_reducible assumption) | assumption); obtain ⟨ad1233, e1233, hx1233_0⟩ := Kd.at_int (Kd.R_reads' HO1229.out).2.2 0 p1233 q1233; cases e1233; have qi1233 : (0 < t1227.length) = True := eq_true (by omega); (try rw [show ((0 : Int)).toNat = 0 from rfl] at hx1233_0); (try rw [Addr.add_zero'] at hx1233_0); have hn1233_0 : ad1233.block ≠ gb1232 := Kd.own_blk (Kd.R_ne HO1229.out BK1232.out (by decide)); replace hx1233_0 := (cell_put7 (p := gb1232) (by first | (rw [add_block]; exact hn1233_0) | (show (Addr.add _ _).block ≠ _; rw [add_block]; exact hn1233_0) | exact hn1233_0) t1231).trans hx1233_0; clear hn1233_0; replace p1233 := eq_true p1233; replace q1233 := eq_true q1233; have p1234 : 0 ≤ (1 : Int) := (by omega); have q1234 : 1 < (t1227.length : Int) := of_decide_eq_true (by first | (with_reducible assumption) | assumption); obtain ⟨ad1234, e1234, hx1234_0⟩ := Kd.at_int (Kd.R_reads' HO1229.out).2.2 1 p1234 q1234; obtain rfl : ad1233 = ad1234 := (by injection e1234); (try simp only [show (1 : Int).toNat = 1 from rfl, Nat.reduceMul, Nat.reduceEqDiff, Go.Addr.add, ↓reduceIte] at hx1234_0); have qi1234 : (1 < t1227.length) = True := eq_true (by omega); (try rw [show ((1 : Int)).toNat = 1 from rfl] at hx1234_0); have hn1234_0 : ad1233.block ≠ gb1232 := Kd.own_blk (Kd.R_ne HO1229.out BK1232.out (by decide)); replace hx1234_0 := (cell_put7 (p := gb1232) (by first | (rw [add_block]; exact hn1234_0) | (show (Addr.add _ _).block ≠ _; rw [add_block]; exact hn1234_0) | exact hn1234_0) t1231).trans hx1234_0; clear hn1234_0; replace p1234 := eq_true p1234; replace q1234 := eq_true q1234; have p1235 : 0 ≤ (2 : Int) := (by omega); have q1235 : 2 < (t1227.length : Int) := of_decide_eq_true (by first | (with_reducible assumption) | assumption); obtain ⟨ad1235, e1235, hx1235_0⟩ := Kd.at_int (Kd.R_reads' HO1229.out).2.2 2 p1235 q1235; obtain rfl : ad1233 = ad1235 := (by injection e1235); (try simp only [show (2 : Int).toNat = 2 from rfl, Nat.reduceMul, Nat.reduceEqDiff, Go.Addr.add, ↓reduceIte] at hx1235_0); have qi1235 : (2 < t1227.length) = True := eq_true (by omega); (try rw [show ((2 : Int)).toNat = 2 from rfl] at hx1235_0); have hn1235_0 : ad1233.block ≠ gb1232 := Kd.own_blk (Kd.R_ne HO1229.out BK1232.out (by decide)); replace hx1235_0 := (cell_put7 (p := gb1232) (by first | (rw [add_block]; exact hn1235_0) | (show (Addr.add _ _).block ≠ _; rw [add_block]; exact hn1235_0) | exact hn1235_0) t1231).trans hx1235_0; clear hn1235_0; replace p1235 := eq_true p1235; replace q1235 := eq_true q1235; have p1236 : 0 ≤ (3 : Int) := (by omega); have q1236 : 3 < (t1227.length : Int) := of_decide_eq_true (by first | (with_reducible assumption) | assumption); obtain ⟨ad1236, e1236, hx1236_0⟩ := Kd.at_int (Kd.R_reads' HO1229.out).2.2 3 p1236 q1236; obtain rfl : ad1233 = ad1236 := (by injection e1236); (try simp only [show (3 : Int).toNat = 3 from rfl, Nat.reduceMul, Nat.reduceEqDiff, Go.Addr.add, ↓reduceIte] at hx1236_0); have qi1236 : (3 < t1227.length) = True := eq_true (by omega); (try rw [show ((3 : Int)).toNat = 3 from rfl] at hx1236_0); have hn1236_0 : ad1233.block ≠ gb1232 := Kd.own_blk (Kd.R_ne HO1229.out BK1232.out (by decide)); replace hx1236_0 := (cell_put7 (p := gb1232) (by first | (rw [add_block]; exact hn1236_0) | (show (Addr.add _ _).block ≠ _; rw [add_block]; exact hn1236_0) | exact hn1236_0) t1231).trans hx1236_0; clear hn1236_0; replace p1236 := eq_true p1236; replace q1236 := eq_true q1236) | (go_at_call 64; (with_reducible refine (scalar_Add.calls k t1231 t1231 t1237 _ A14.out).mono ?_); rintro e w24 ⟨rfl, hb⟩; have n0_ := Aside0.mk (Kd.R_below (by (with_reducible repeat (first | apply Kd.R_alloc | apply Kd.R_drewN | apply Kd.R_drew)); exact (Kd.R_mono (R_far7 (p := gb1232) (Kd.R_types HO1229.out BK1232.out (by decide)) (fun _ hk => hk.2)) (fun _ h_ => h_.1))) hb); have n1_ := Aside0.mk (blk_below (g := gb1232) (o := .cells (sv t1231) 73 (0, 0)) (by (with_reducible repeat (first | refine blk_drewN ?_ _ | refine blk_drew ?_ | refine blk_alloc ?_ _)); refine blk_put7z ?_; (with_reducible repeat (first | refine blk_drewN ?_ _ | refine blk_drew ?_ | refine blk_alloc ?_ _)); exact BK1232.out) hb); have n2_ := Aside0.mk (below_step (by repeat (first | (with_reducible first | exact HB.out | apply below_alloc | apply pw_below_drewN | apply below_drew1 | refine below_set ?_ GE1232.out) | exact HB.out)) hb); clear HO1229; clear BK1232; clear HB; have HO1229 := n0_; have BK1232 := n1_; have HB := n2_; clear n0_ n1_ n2_; (try clear hb); (try clear hb2); (try clear hk); (try clear hi)) | (go_at_call 69; (with_reducible refine (scalar_Int.calls k 1 t1238 _ A15.out).mono ?_); rintro e w25 ⟨rfl, hb⟩; have n0_ := Aside0.mk (Kd.R_below (by (with_reducible repeat (first | apply Kd.R_alloc | apply Kd.R_drewN | apply Kd.R_drew)); exact HO1229.out) hb); have n1_ := Aside0.mk (blk_below (g := gb1232) (o := .cells (sv t1231) 73 (0, 0)) (by (with_reducible repeat (first | refine blk_drewN ?_ _ | refine blk_drew ?_ | refine blk_alloc ?_ _)); exact BK1232.out) hb); have n2_ := Aside0.mk (below_step (by repeat (first | (with_reducible first | exact HB.out | apply below_alloc | apply pw_below_drewN | apply below_drew1 | refine below_set ?_ GE1232.out) | exact HB.out)) hb); clear HO1229; clear BK1232; clear HB; have HO1229 := n0_; have BK1232 := n1_; have HB := n2_; clear n0_ n1_ n2_; (try clear hb); (try clear hb2); (try clear hk); (try clear hi)) | (go_at_call 76; (with_reducible refine (scalar_Equal.calls k t1237 t1238 t1239 _ A16.out).mono ?_); rintro e w26 ⟨rfl, hb⟩; have n0_ := Aside0.mk (Kd.R_below (by (with_reducible repeat (first | apply Kd.R_alloc | apply Kd.R_drewN | apply Kd.R_drew)); exact HO1229.out) hb); have n1_ := Aside0.mk (blk_below (g := gb1232) (o := .cells (sv t1231) 73 (0, 0)) (by (with_reducible repeat (first | refine blk_drewN ?_ _ | refine blk_drew ?_ | refine blk_alloc ?_ _)); exact BK1232.out) hb); have n2_ := Aside0.mk (below_step (by repeat (first | (with_reducible first | exact HB.out | apply below_alloc | apply pw_below_drewN | apply below_drew1 | refine below_set ?_ GE1232.out) | exact HB.out)) hb); clear HO1229; clear BK1232; clear HB; have HO1229 := n0_; have BK1232 := n1_; have HB := n2_; clear n0_ n1_ n2_; (try clear hb); (try clear hb2); (try clear hk); (try clear hi)))
                    go_ret
                    exact ⟨by first | rfl | (simp [errW_none, errW_some] <;> rfl) | (simp [*, errW_none, errW_some] <;> rfl), by repeat (first | (with_reducible first | exact HB.out | apply below_alloc | apply pw_below_drewN | apply below_drew1 | refine below_set ?_ GE1232.out) | exact HB.out)⟩
                  · rw [if_neg c13] at H
                    have c13b0 : ((rd t1227 3) == 171) = false := beq_eq_false_iff_ne.mpr c13
                    have c13b1 : ((rd t1227 3) != 171) = true := bne_iff_ne.mpr c13
                    obtain rfl := Option.some.inj H
                    go_enter Try.func71, Try.ntmps71
                    go_wp2_with (first | ((with_reducible refine gate_callee (f := 69) rfl ?_); refine goesL_ (some 3) rfl rfl Try.func69 (by kernel_rfl) rfl #[.int .i64 (-1)] rfl (by (try simp only [List.map_toArray, List.map_cons, List.map_nil]); first | done | rfl | (simp only [List.length_drop, List.length_take]; rfl)) ?_; (with_reducible refine (scalar_Int.calls k (-1) t1226 _ A1.out).mono ?_); rintro e w27 ⟨rfl, hb⟩; refine ⟨_, rfl, ?_⟩; have n0_ := Aside0.mk (below_step (by repeat (first | (with_reducible first | exact HB.out | apply below_alloc | apply pw_below_drewN | apply below_drew1) | exact HB.out)) hb); clear HB; have HB := n0_; clear n0_; (try clear hb); (try clear hb2); (try clear hk); (try clear hi)) | ((with_reducible refine gate_callee (f := 89) rfl ?_); refine goesL_ (some 4) rfl rfl Try.func89 (by kernel_rfl) rfl #[.agg (sv t1226)] rfl (by (try simp only [List.map_toArray, List.map_cons, List.map_nil]); first | done | rfl | (simp only [List.length_drop, List.length_take]; rfl)) ?_; (with_reducible refine (scalar_Bytes.calls k t1226 t1227 _ A2.out).mono ?_); rintro e w28 ⟨v1228, rfl, ho0, hb⟩; refine ⟨_, rfl, ?_⟩; have n0_ := Aside0.mk (Kd.R_lower ho0 (below_size (by repeat (first | (with_reducible first | exact HB.out | apply below_alloc | apply pw_below_drewN | apply below_drew1) | exact HB.out)))); have n1_ := Aside0.mk (below_step (by repeat (first | (with_reducible first | exact HB.out | apply below_alloc | apply pw_below_drewN | apply below_drew1) | exact HB.out)) hb); clear HB; have HO1229 := n0_; have HB := n1_; clear n0_ n1_; (try clear hb); (try clear hb2); (try clear hk); (try clear hi); (try clear ho0)) | ((with_reducible refine gate_callee (f := 69) rfl ?_); refine goesL_ (some 5) rfl rfl Try.func69 (by kernel_rfl) rfl #[.int .i64 1] rfl (by (try simp only [List.map_toArray, List.map_cons, List.map_nil]); first | done | rfl | (simp only [List.length_drop, List.length_take]; rfl)) ?_; (with_reducible refine (scalar_Int.calls k 1 t1230 _ A3.out).mono ?_); rintro e w29 ⟨rfl, hb⟩; refine ⟨_, rfl, ?_⟩; have n0_ := Aside0.mk (Kd.R_below (by (with_reducible repeat (first | apply Kd.R_alloc | apply Kd.R_drewN | apply Kd.R_drew)); exact HO1229.out) hb); have n1_ := Aside0.mk (below_step (by repeat (first | (with_reducible first | exact HB.out | apply below_alloc | apply pw_below_drewN | apply below_drew1) | exact HB.out)) hb); clear HO1229; clear HB; have HO1229 := n0_; have HB := n1_; clear n0_ n1_; (try clear hb); (try clear hb2); (try clear hk); (try clear hi)) | ((with_reducible refine gate_callee (f := 74) rfl ?_); refine goesL_ (some 6) rfl rfl Try.func74 (by kernel_rfl) rfl #[.agg (sv t1230)] rfl (by (try simp only [List.map_toArray, List.map_cons, List.map_nil]); first | done | rfl | (simp only [List.length_drop, List.length_take]; rfl)) ?_; (with_reducible refine (scalar_Half.calls k t1230 t1231 _ A4.out).mono ?_); rintro e w30 ⟨rfl, hb⟩; refine ⟨_, rfl, ?_⟩; have n0_ := Aside0.mk (Kd.R_below (by (with_reducible repeat (first | apply Kd.R_alloc | apply Kd.R_drewN | apply Kd.R_drew)); exact HO1229.out) hb); have n1_ := Aside0.mk (below_step (by repeat (first | (with_reducible first | exact HB.out | apply below_alloc | apply pw_below_drewN | apply below_drew1) | exact HB.out)) hb); clear HO1229; clear HB; have HO1229 := n0_; have HB := n1_; clear n0_ n1_; (try clear hb); (try clear hb2); (try clear hk); (try clear hi)) | ((with_reducible refine gate_dst (N := 2) rfl ?_); refine box_event ?hg (N := 2) ?hd (cs := zv) (t := 73) ?hr ?_; (case hd => rfl); (case hg => rfl); (case hr => first | (go_simp; done) | (go_simp; rfl)); intro gb1232 hg w31 hbox hb; have n0_ := Aside0.mk (Kd.R_below (by (with_reducible repeat (first | apply Kd.R_alloc | apply Kd.R_drewN | apply Kd.R_drew)); exact HO1229.out) hb); have n1_ := Aside0.mk (below_step (by repeat (first | (with_reducible first | exact HB.out | apply below_alloc | apply pw_below_drewN | apply below_drew1) | exact HB.out)) hb); have n2_ := Aside0.mk (hbox); have n3_ := Aside0.mk ((by rw [hg]; exact (below_size (by repeat (first | (with_reducible first | exact HB.out | apply below_alloc | apply pw_below_drewN | apply below_drew1) | exact HB.out))) : w.heap.size ≤ gb1232)); have n4_ := Aside0.mk ((by rw [hg]; exact (below_size (by repeat (first | (with_reducible first | exact HB.out | apply below_alloc | apply pw_below_drewN | apply below_drew1) | exact HB.out))) : w.heap.size ≤ gb1232)); clear HO1229; clear HB; have HO1229 := n0_; have HB := n1_; have BK1232 := n2_; have GW1232 := n3_; have GE1232 := n4_; clear n0_ n1_ n2_ n3_ n4_; clear hb hbox hg; obtain ⟨hcz32_0, hcz32_0_c1, hcz32_0_c2, hcz32_0_c3, hcz32_0_c4, hcz32_0_c5, hcz32_0_c6⟩ := c7_of (a := z7) BK1232.out rfl; obtain ⟨hfz32_0, hfz32_0_c1, hfz32_0_c2, hfz32_0_c3, hfz32_0_c4, hfz32_0_c5, hfz32_0_c6⟩ := fz7 BK1232.out; obtain ⟨Ao33, co33, eo33⟩ := Kd.R_slice HO1229.out; subst eo33; have p1233 : 0 ≤ (0 : Int) := (by omega); have q1233 : 0 < (t1227.length : Int) := of_decide_eq_true (by first | (with_reducible assumption) | assumption); obtain ⟨ad1233, e1233, hx1233_0⟩ := Kd.at_int (Kd.R_reads' HO1229.out).2.2 0 p1233 q1233; cases e1233; have qi1233 : (0 < t1227.length) = True := eq_true (by omega); (try rw [show ((0 : Int)).toNat = 0 from rfl] at hx1233_0); (try rw [Addr.add_zero'] at hx1233_0); have hn1233_0 : ad1233.block ≠ gb1232 := Kd.own_blk (Kd.R_ne HO1229.out BK1232.out (by decide)); replace hx1233_0 := (cell_put7 (p := gb1232) (by first | (rw [add_block]; exact hn1233_0) | (show (Addr.add _ _).block ≠ _; rw [add_block]; exact hn1233_0) | exact hn1233_0) t1231).trans hx1233_0; clear hn1233_0; replace p1233 := eq_true p1233; replace q1233 := eq_true q1233; have p1234 : 0 ≤ (1 : Int) := (by omega); have q1234 : 1 < (t1227.length : Int) := of_decide_eq_true (by first | (with_reducible assumption) | assumption); obtain ⟨ad1234, e1234, hx1234_0⟩ := Kd.at_int (Kd.R_reads' HO1229.out).2.2 1 p1234 q1234; obtain rfl : ad1233 = ad1234 := (by injection e1234); (try simp only [show (1 : Int).toNat = 1 from rfl, Nat.reduceMul, Nat.reduceEqDiff, Go.Addr.add, ↓reduceIte] at hx1234_0); have qi1234 : (1 < t1227.length) = True := eq_true (by omega); (try rw [show ((1 : Int)).toNat = 1 from rfl] at hx1234_0); have hn1234_0 : ad1233.block ≠ gb1232 := Kd.own_blk (Kd.R_ne HO1229.out BK1232.out (by decide)); replace hx1234_0 := (cell_put7 (p := gb1232) (by first | (rw [add_block]; exact hn1234_0) | (show (Addr.add _ _).block ≠ _; rw [add_block]; exact hn1234_0) | exact hn1234_0) t1231).trans hx1234_0; clear hn1234_0; replace p1234 := eq_true p1234; replace q1234 := eq_true q1234; have p1235 : 0 ≤ (2 : Int) := (by omega); have q1235 : 2 < (t1227.length : Int) := of_decide_eq_true (by first | (with_reducible assumption) | assumption); obtain ⟨ad1235, e1235, hx1235_0⟩ := Kd.at_int (Kd.R_reads' HO1229.out).2.2 2 p1235 q1235; obtain rfl : ad1233 = ad1235 := (by injection e1235); (try simp only [show (2 : Int).toNat = 2 from rfl, Nat.reduceMul, Nat.reduceEqDiff, Go.Addr.add, ↓reduceIte] at hx1235_0); have qi1235 : (2 < t1227.length) = True := eq_true (by omega); (try rw [show ((2 : Int)).toNat = 2 from rfl] at hx1235_0); have hn1235_0 : ad1233.block ≠ gb1232 := Kd.own_blk (Kd.R_ne HO1229.out BK1232.out (by decide)); replace hx1235_0 := (cell_put7 (p := gb1232) (by first | (rw [add_block]; exact hn1235_0) | (show (Addr.add _ _).block ≠ _; rw [add_block]; exact hn1235_0) | exact hn1235_0) t1231).trans hx1235_0; clear hn1235_0; replace p1235 := eq_true p1235; replace q1235 := eq_true q1235; have p1236 : 0 ≤ (3 : Int) := (by omega); have q1236 : 3 < (t1227.length : Int) := of_decide_eq_true (by first | (with_reducible assumption) | assumption); obtain ⟨ad1236, e1236, hx1236_0⟩ := Kd.at_int (Kd.R_reads' HO1229.out).2.2 3 p1236 q1236; obtain rfl : ad1233 = ad1236 := (by injection e1236); (try simp only [show (3 : Int).toNat = 3 from rfl, Nat.reduceMul, Nat.reduceEqDiff, Go.Addr.add, ↓reduceIte] at hx1236_0); have qi1236 : (3 < t1227.length) = True := eq_true (by omega); (try rw [show ((3 : Int)).toNat = 3 from rfl] at hx1236_0); have hn1236_0 : ad1233.block ≠ gb1232 := Kd.own_blk (Kd.R_ne HO1229.out BK1232.out (by decide)); replace hx1236_0 := (cell_put7 (p := gb1232) (by first | (rw [add_block]; exact hn1236_0) | (show (Addr.add _ _).block ≠ _; rw [add_block]; exact hn1236_0) | exact hn1236_0) t1231).trans hx1236_0; clear hn1236_0; replace p1236 := eq_true p1236; replace q1236 := eq_true q1236))
                    go_ret
                    exact ⟨by first | rfl | (simp [errW_none, errW_some] <;> rfl) | (simp [*, errW_none, errW_some] <;> rfl), by repeat (first | (with_reducible first | exact HB.out | apply below_alloc | apply pw_below_drewN | apply below_drew1 | refine below_set ?_ GE1232.out) | exact HB.out)⟩
                · rw [if_neg c12] at H
                  exact absurd H (by simp)
              · rw [if_neg c11] at H
                have c11b0 : ((rd t1227 2) == 88) = false := beq_eq_false_iff_ne.mpr c11
                have c11b1 : ((rd t1227 2) != 88) = true := bne_iff_ne.mpr c11
                obtain rfl := Option.some.inj H
                go_enter Try.func71, Try.ntmps71
                go_wp2_with (first | ((with_reducible refine gate_callee (f := 69) rfl ?_); refine goesL_ (some 3) rfl rfl Try.func69 (by kernel_rfl) rfl #[.int .i64 (-1)] rfl (by (try simp only [List.map_toArray, List.map_cons, List.map_nil]); first | done | rfl | (simp only [List.length_drop, List.length_take]; rfl)) ?_; (with_reducible refine (scalar_Int.calls k (-1) t1226 _ A1.out).mono ?_); rintro e w34 ⟨rfl, hb⟩; refine ⟨_, rfl, ?_⟩; have n0_ := Aside0.mk (below_step (by repeat (first | (with_reducible first | exact HB.out | apply below_alloc | apply pw_below_drewN | apply below_drew1) | exact HB.out)) hb); clear HB; have HB := n0_; clear n0_; (try clear hb); (try clear hb2); (try clear hk); (try clear hi)) | ((with_reducible refine gate_callee (f := 89) rfl ?_); refine goesL_ (some 4) rfl rfl Try.func89 (by kernel_rfl) rfl #[.agg (sv t1226)] rfl (by (try simp only [List.map_toArray, List.map_cons, List.map_nil]); first | done | rfl | (simp only [List.length_drop, List.length_take]; rfl)) ?_; (with_reducible refine (scalar_Bytes.calls k t1226 t1227 _ A2.out).mono ?_); rintro e w35 ⟨v1228, rfl, ho0, hb⟩; refine ⟨_, rfl, ?_⟩; have n0_ := Aside0.mk (Kd.R_lower ho0 (below_size (by repeat (first | (with_reducible first | exact HB.out | apply below_alloc | apply pw_below_drewN | apply below_drew1) | exact HB.out)))); have n1_ := Aside0.mk (below_step (by repeat (first | (with_reducible first | exact HB.out | apply below_alloc | apply pw_below_drewN | apply below_drew1) | exact HB.out)) hb); clear HB; have HO1229 := n0_; have HB := n1_; clear n0_ n1_; (try clear hb); (try clear hb2); (try clear hk); (try clear hi); (try clear ho0)) | ((with_reducible refine gate_callee (f := 69) rfl ?_); refine goesL_ (some 5) rfl rfl Try.func69 (by kernel_rfl) rfl #[.int .i64 1] rfl (by (try simp only [List.map_toArray, List.map_cons, List.map_nil]); first | done | rfl | (simp only [List.length_drop, List.length_take]; rfl)) ?_; (with_reducible refine (scalar_Int.calls k 1 t1230 _ A3.out).mono ?_); rintro e w36 ⟨rfl, hb⟩; refine ⟨_, rfl, ?_⟩; have n0_ := Aside0.mk (Kd.R_below (by (with_reducible repeat (first | apply Kd.R_alloc | apply Kd.R_drewN | apply Kd.R_drew)); exact HO1229.out) hb); have n1_ := Aside0.mk (below_step (by repeat (first | (with_reducible first | exact HB.out | apply below_alloc | apply pw_below_drewN | apply below_drew1) | exact HB.out)) hb); clear HO1229; clear HB; have HO1229 := n0_; have HB := n1_; clear n0_ n1_; (try clear hb); (try clear hb2); (try clear hk); (try clear hi)) | ((with_reducible refine gate_callee (f := 74) rfl ?_); refine goesL_ (some 6) rfl rfl Try.func74 (by kernel_rfl) rfl #[.agg (sv t1230)] rfl (by (try simp only [List.map_toArray, List.map_cons, List.map_nil]); first | done | rfl | (simp only [List.length_drop, List.length_take]; rfl)) ?_; (with_reducible refine (scalar_Half.calls k t1230 t1231 _ A4.out).mono ?_); rintro e w37 ⟨rfl, hb⟩; refine ⟨_, rfl, ?_⟩; have n0_ := Aside0.mk (Kd.R_below (by (with_reducible repeat (first | apply Kd.R_alloc | apply Kd.R_drewN | apply Kd.R_drew)); exact HO1229.out) hb); have n1_ := Aside0.mk (below_step (by repeat (first | (with_reducible first | exact HB.out | apply below_alloc | apply pw_below_drewN | apply below_drew1) | exact HB.out)) hb); clear HO1229; clear HB; have HO1229 := n0_; have HB := n1_; clear n0_ n1_; (try clear hb); (try clear hb2); (try clear hk); (try clear hi)) | ((with_reducible refine gate_dst (N := 2) rfl ?_); refine box_event ?hg (N := 2) ?hd (cs := zv) (t := 73) ?hr ?_; (case hd => rfl); (case hg => rfl); (case hr => first | (go_simp; done) | (go_simp; rfl)); intro gb1232 hg w38 hbox hb; have n0_ := Aside0.mk (Kd.R_below (by (with_reducible repeat (first | apply Kd.R_alloc | apply Kd.R_drewN | apply Kd.R_drew)); exact HO1229.out) hb); have n1_ := Aside0.mk (below_step (by repeat (first | (with_reducible first | exact HB.out | apply below_alloc | apply pw_below_drewN | apply below_drew1) | exact HB.out)) hb); have n2_ := Aside0.mk (hbox); have n3_ := Aside0.mk ((by rw [hg]; exact (below_size (by repeat (first | (with_reducible first | exact HB.out | apply below_alloc | apply pw_below_drewN | apply below_drew1) | exact HB.out))) : w.heap.size ≤ gb1232)); have n4_ := Aside0.mk ((by rw [hg]; exact (below_size (by repeat (first | (with_reducible first | exact HB.out | apply below_alloc | apply pw_below_drewN | apply below_drew1) | exact HB.out))) : w.heap.size ≤ gb1232)); clear HO1229; clear HB; have HO1229 := n0_; have HB := n1_; have BK1232 := n2_; have GW1232 := n3_; have GE1232 := n4_; clear n0_ n1_ n2_ n3_ n4_; clear hb hbox hg; obtain ⟨hcz39_0, hcz39_0_c1, hcz39_0_c2, hcz39_0_c3, hcz39_0_c4, hcz39_0_c5, hcz39_0_c6⟩ := c7_of (a := z7) BK1232.out rfl; obtain ⟨hfz39_0, hfz39_0_c1, hfz39_0_c2, hfz39_0_c3, hfz39_0_c4, hfz39_0_c5, hfz39_0_c6⟩ := fz7 BK1232.out; obtain ⟨Ao40, co40, eo40⟩ := Kd.R_slice HO1229.out; subst eo40; have p1233 : 0 ≤ (0 : Int) := (by omega); have q1233 : 0 < (t1227.length : Int) := of_decide_eq_true (by first | (with_reducible assumption) | assumption); obtain ⟨ad1233, e1233, hx1233_0⟩ := Kd.at_int (Kd.R_reads' HO1229.out).2.2 0 p1233 q1233; cases e1233; have qi1233 : (0 < t1227.length) = True := eq_true (by omega); (try rw [show ((0 : Int)).toNat = 0 from rfl] at hx1233_0); (try rw [Addr.add_zero'] at hx1233_0); have hn1233_0 : ad1233.block ≠ gb1232 := Kd.own_blk (Kd.R_ne HO1229.out BK1232.out (by decide)); replace hx1233_0 := (cell_put7 (p := gb1232) (by first | (rw [add_block]; exact hn1233_0) | (show (Addr.add _ _).block ≠ _; rw [add_block]; exact hn1233_0) | exact hn1233_0) t1231).trans hx1233_0; clear hn1233_0; replace p1233 := eq_true p1233; replace q1233 := eq_true q1233; have p1234 : 0 ≤ (1 : Int) := (by omega); have q1234 : 1 < (t1227.length : Int) := of_decide_eq_true (by first | (with_reducible assumption) | assumption); obtain ⟨ad1234, e1234, hx1234_0⟩ := Kd.at_int (Kd.R_reads' HO1229.out).2.2 1 p1234 q1234; obtain rfl : ad1233 = ad1234 := (by injection e1234); (try simp only [show (1 : Int).toNat = 1 from rfl, Nat.reduceMul, Nat.reduceEqDiff, Go.Addr.add, ↓reduceIte] at hx1234_0); have qi1234 : (1 < t1227.length) = True := eq_true (by omega); (try rw [show ((1 : Int)).toNat = 1 from rfl] at hx1234_0); have hn1234_0 : ad1233.block ≠ gb1232 := Kd.own_blk (Kd.R_ne HO1229.out BK1232.out (by decide)); replace hx1234_0 := (cell_put7 (p := gb1232) (by first | (rw [add_block]; exact hn1234_0) | (show (Addr.add _ _).block ≠ _; rw [add_block]; exact hn1234_0) | exact hn1234_0) t1231).trans hx1234_0; clear hn1234_0; replace p1234 := eq_true p1234; replace q1234 := eq_true q1234; have p1235 : 0 ≤ (2 : Int) := (by omega); have q1235 : 2 < (t1227.length : Int) := of_decide_eq_true (by first | (with_reducible assumption) | assumption); obtain ⟨ad1235, e1235, hx1235_0⟩ := Kd.at_int (Kd.R_reads' HO1229.out).2.2 2 p1235 q1235; obtain rfl : ad1233 = ad1235 := (by injection e1235); (try simp only [show (2 : Int).toNat = 2 from rfl, Nat.reduceMul, Nat.reduceEqDiff, Go.Addr.add, ↓reduceIte] at hx1235_0); have qi1235 : (2 < t1227.length) = True := eq_true (by omega); (try rw [show ((2 : Int)).toNat = 2 from rfl] at hx1235_0); have hn1235_0 : ad1233.block ≠ gb1232 := Kd.own_blk (Kd.R_ne HO1229.out BK1232.out (by decide)); replace hx1235_0 := (cell_put7 (p := gb1232) (by first | (rw [add_block]; exact hn1235_0) | (show (Addr.add _ _).block ≠ _; rw [add_block]; exact hn1235_0) | exact hn1235_0) t1231).trans hx1235_0; clear hn1235_0; replace p1235 := eq_true p1235; replace q1235 := eq_true q1235))
                go_ret
                exact ⟨by first | rfl | (simp [errW_none, errW_some] <;> rfl) | (simp [*, errW_none, errW_some] <;> rfl), by repeat (first | (with_reducible first | exact HB.out | apply below_alloc | apply pw_below_drewN | apply below_drew1 | refine below_set ?_ GE1232.out) | exact HB.out)⟩
            · rw [if_neg c10] at H
              exact absurd H (by simp)
          · rw [if_neg c9] at H
            have c9b0 : ((rd t1227 1) == 68) = false := beq_eq_false_iff_ne.mpr c9
            have c9b1 : ((rd t1227 1) != 68) = true := bne_iff_ne.mpr c9
            obtain rfl := Option.some.inj H
            go_enter Try.func71, Try.ntmps71
            go_wp2_with (first | ((with_reducible refine gate_callee (f := 69) rfl ?_); refine goesL_ (some 3) rfl rfl Try.func69 (by kernel_rfl) rfl #[.int .i64 (-1)] rfl (by (try simp only [List.map_toArray, List.map_cons, List.map_nil]); first | done | rfl | (simp only [List.length_drop, List.length_take]; rfl)) ?_; (with_reducible refine (scalar_Int.calls k (-1) t1226 _ A1.out).mono ?_); rintro e w41 ⟨rfl, hb⟩; refine ⟨_, rfl, ?_⟩; have n0_ := Aside0.mk (below_step (by repeat (first | (with_reducible first | exact HB.out | apply below_alloc | apply pw_below_drewN | apply below_drew1) | exact HB.out)) hb); clear HB; have HB := n0_; clear n0_; (try clear hb); (try clear hb2); (try clear hk); (try clear hi)) | ((with_reducible refine gate_callee (f := 89) rfl ?_); refine goesL_ (some 4) rfl rfl Try.func89 (by kernel_rfl) rfl #[.agg (sv t1226)] rfl (by (try simp only [List.map_toArray, List.map_cons, List.map_nil]); first | done | rfl | (simp only [List.length_drop, List.length_take]; rfl)) ?_; (with_reducible refine (scalar_Bytes.calls k t1226 t1227 _ A2.out).mono ?_); rintro e w42 ⟨v1228, rfl, ho0, hb⟩; refine ⟨_, rfl, ?_⟩; have n0_ := Aside0.mk (Kd.R_lower ho0 (below_size (by repeat (first | (with_reducible first | exact HB.out | apply below_alloc | apply pw_below_drewN | apply below_drew1) | exact HB.out)))); have n1_ := Aside0.mk (below_step (by repeat (first | (with_reducible first | exact HB.out | apply below_alloc | apply pw_below_drewN | apply below_drew1) | exact HB.out)) hb); clear HB; have HO1229 := n0_; have HB := n1_; clear n0_ n1_; (try clear hb); (try clear hb2); (try clear hk); (try clear hi); (try clear ho0)) | ((with_reducible refine gate_callee (f := 69) rfl ?_); refine goesL_ (some 5) rfl rfl Try.func69 (by kernel_rfl) rfl #[.int .i64 1] rfl (by (try simp only [List.map_toArray, List.map_cons, List.map_nil]); first | done | rfl | (simp only [List.length_drop, List.length_take]; rfl)) ?_; (with_reducible refine (scalar_Int.calls k 1 t1230 _ A3.out).mono ?_); rintro e w43 ⟨rfl, hb⟩; refine ⟨_, rfl, ?_⟩; have n0_ := Aside0.mk (Kd.R_below (by (with_reducible repeat (first | apply Kd.R_alloc | apply Kd.R_drewN | apply Kd.R_drew)); exact HO1229.out) hb); have n1_ := Aside0.mk (below_step (by repeat (first | (with_reducible first | exact HB.out | apply below_alloc | apply pw_below_drewN | apply below_drew1) | exact HB.out)) hb); clear HO1229; clear HB; have HO1229 := n0_; have HB := n1_; clear n0_ n1_; (try clear hb); (try clear hb2); (try clear hk); (try clear hi)) | ((with_reducible refine gate_callee (f := 74) rfl ?_); refine goesL_ (some 6) rfl rfl Try.func74 (by kernel_rfl) rfl #[.agg (sv t1230)] rfl (by (try simp only [List.map_toArray, List.map_cons, List.map_nil]); first | done | rfl | (simp only [List.length_drop, List.length_take]; rfl)) ?_; (with_reducible refine (scalar_Half.calls k t1230 t1231 _ A4.out).mono ?_); rintro e w44 ⟨rfl, hb⟩; refine ⟨_, rfl, ?_⟩; have n0_ := Aside0.mk (Kd.R_below (by (with_reducible repeat (first | apply Kd.R_alloc | apply Kd.R_drewN | apply Kd.R_drew)); exact HO1229.out) hb); have n1_ := Aside0.mk (below_step (by repeat (first | (with_reducible first | exact HB.out | apply below_alloc | apply pw_below_drewN | apply below_drew1) | exact HB.out)) hb); clear HO1229; clear HB; have HO1229 := n0_; have HB := n1_; clear n0_ n1_; (try clear hb); (try clear hb2); (try clear hk); (try clear hi)) | ((with_reducible refine gate_dst (N := 2) rfl ?_); refine box_event ?hg (N := 2) ?hd (cs := zv) (t := 73) ?hr ?_; (case hd => rfl); (case hg => rfl); (case hr => first | (go_simp; done) | (go_simp; rfl)); intro gb1232 hg w45 hbox hb; have n0_ := Aside0.mk (Kd.R_below (by (with_reducible repeat (first | apply Kd.R_alloc | apply Kd.R_drewN | apply Kd.R_drew)); exact HO1229.out) hb); have n1_ := Aside0.mk (below_step (by repeat (first | (with_reducible first | exact HB.out | apply below_alloc | apply pw_below_drewN | apply below_drew1) | exact HB.out)) hb); have n2_ := Aside0.mk (hbox); have n3_ := Aside0.mk ((by rw [hg]; exact (below_size (by repeat (first | (with_reducible first | exact HB.out | apply below_alloc | apply pw_below_drewN | apply below_drew1) | exact HB.out))) : w.heap.size ≤ gb1232)); have n4_ := Aside0.mk ((by rw [hg]; exact (below_size (by repeat (first | (with_reducible first | exact HB.out | apply below_alloc | apply pw_below_drewN | apply below_drew1) | exact HB.out))) : w.heap.size ≤ gb1232)); clear HO1229; clear HB; have HO1229 := n0_; have HB := n1_; have BK1232 := n2_; have GW1232 := n3_; have GE1232 := n4_; clear n0_ n1_ n2_ n3_ n4_; clear hb hbox hg; obtain ⟨hcz46_0, hcz46_0_c1, hcz46_0_c2, hcz46_0_c3, hcz46_0_c4, hcz46_0_c5, hcz46_0_c6⟩ := c7_of (a := z7) BK1232.out rfl; obtain ⟨hfz46_0, hfz46_0_c1, hfz46_0_c2, hfz46_0_c3, hfz46_0_c4, hfz46_0_c5, hfz46_0_c6⟩ := fz7 BK1232.out; obtain ⟨Ao47, co47, eo47⟩ := Kd.R_slice HO1229.out; subst eo47; have p1233 : 0 ≤ (0 : Int) := (by omega); have q1233 : 0 < (t1227.length : Int) := of_decide_eq_true (by first | (with_reducible assumption) | assumption); obtain ⟨ad1233, e1233, hx1233_0⟩ := Kd.at_int (Kd.R_reads' HO1229.out).2.2 0 p1233 q1233; cases e1233; have qi1233 : (0 < t1227.length) = True := eq_true (by omega); (try rw [show ((0 : Int)).toNat = 0 from rfl] at hx1233_0); (try rw [Addr.add_zero'] at hx1233_0); have hn1233_0 : ad1233.block ≠ gb1232 := Kd.own_blk (Kd.R_ne HO1229.out BK1232.out (by decide)); replace hx1233_0 := (cell_put7 (p := gb1232) (by first | (rw [add_block]; exact hn1233_0) | (show (Addr.add _ _).block ≠ _; rw [add_block]; exact hn1233_0) | exact hn1233_0) t1231).trans hx1233_0; clear hn1233_0; replace p1233 := eq_true p1233; replace q1233 := eq_true q1233; have p1234 : 0 ≤ (1 : Int) := (by omega); have q1234 : 1 < (t1227.length : Int) := of_decide_eq_true (by first | (with_reducible assumption) | assumption); obtain ⟨ad1234, e1234, hx1234_0⟩ := Kd.at_int (Kd.R_reads' HO1229.out).2.2 1 p1234 q1234; obtain rfl : ad1233 = ad1234 := (by injection e1234); (try simp only [show (1 : Int).toNat = 1 from rfl, Nat.reduceMul, Nat.reduceEqDiff, Go.Addr.add, ↓reduceIte] at hx1234_0); have qi1234 : (1 < t1227.length) = True := eq_true (by omega); (try rw [show ((1 : Int)).toNat = 1 from rfl] at hx1234_0); have hn1234_0 : ad1233.block ≠ gb1232 := Kd.own_blk (Kd.R_ne HO1229.out BK1232.out (by decide)); replace hx1234_0 := (cell_put7 (p := gb1232) (by first | (rw [add_block]; exact hn1234_0) | (show (Addr.add _ _).block ≠ _; rw [add_block]; exact hn1234_0) | exact hn1234_0) t1231).trans hx1234_0; clear hn1234_0; replace p1234 := eq_true p1234; replace q1234 := eq_true q1234))
            go_ret
            exact ⟨by first | rfl | (simp [errW_none, errW_some] <;> rfl) | (simp [*, errW_none, errW_some] <;> rfl), by repeat (first | (with_reducible first | exact HB.out | apply below_alloc | apply pw_below_drewN | apply below_drew1 | refine below_set ?_ GE1232.out) | exact HB.out)⟩
        · rw [if_neg c8] at H
          exact absurd H (by simp)
      · rw [if_neg c7] at H
        have c7b0 : ((rd t1227 0) == 242) = false := beq_eq_false_iff_ne.mpr c7
        have c7b1 : ((rd t1227 0) != 242) = true := bne_iff_ne.mpr c7
        obtain rfl := Option.some.inj H
        go_enter Try.func71, Try.ntmps71
        go_wp2_with (first | ((with_reducible refine gate_callee (f := 69) rfl ?_); refine goesL_ (some 3) rfl rfl Try.func69 (by kernel_rfl) rfl #[.int .i64 (-1)] rfl (by (try simp only [List.map_toArray, List.map_cons, List.map_nil]); first | done | rfl | (simp only [List.length_drop, List.length_take]; rfl)) ?_; (with_reducible refine (scalar_Int.calls k (-1) t1226 _ A1.out).mono ?_); rintro e w48 ⟨rfl, hb⟩; refine ⟨_, rfl, ?_⟩; have n0_ := Aside0.mk (below_step (by repeat (first | (with_reducible first | exact HB.out | apply below_alloc | apply pw_below_drewN | apply below_drew1) | exact HB.out)) hb); clear HB; have HB := n0_; clear n0_; (try clear hb); (try clear hb2); (try clear hk); (try clear hi)) | ((with_reducible refine gate_callee (f := 89) rfl ?_); refine goesL_ (some 4) rfl rfl Try.func89 (by kernel_rfl) rfl #[.agg (sv t1226)] rfl (by (try simp only [List.map_toArray, List.map_cons, List.map_nil]); first | done | rfl | (simp only [List.length_drop, List.length_take]; rfl)) ?_; (with_reducible refine (scalar_Bytes.calls k t1226 t1227 _ A2.out).mono ?_); rintro e w49 ⟨v1228, rfl, ho0, hb⟩; refine ⟨_, rfl, ?_⟩; have n0_ := Aside0.mk (Kd.R_lower ho0 (below_size (by repeat (first | (with_reducible first | exact HB.out | apply below_alloc | apply pw_below_drewN | apply below_drew1) | exact HB.out)))); have n1_ := Aside0.mk (below_step (by repeat (first | (with_reducible first | exact HB.out | apply below_alloc | apply pw_below_drewN | apply below_drew1) | exact HB.out)) hb); clear HB; have HO1229 := n0_; have HB := n1_; clear n0_ n1_; (try clear hb); (try clear hb2); (try clear hk); (try clear hi); (try clear ho0)) | ((with_reducible refine gate_callee (f := 69) rfl ?_); refine goesL_ (some 5) rfl rfl Try.func69 (by kernel_rfl) rfl #[.int .i64 1] rfl (by (try simp only [List.map_toArray, List.map_cons, List.map_nil]); first | done | rfl | (simp only [List.length_drop, List.length_take]; rfl)) ?_; (with_reducible refine (scalar_Int.calls k 1 t1230 _ A3.out).mono ?_); rintro e w50 ⟨rfl, hb⟩; refine ⟨_, rfl, ?_⟩; have n0_ := Aside0.mk (Kd.R_below (by (with_reducible repeat (first | apply Kd.R_alloc | apply Kd.R_drewN | apply Kd.R_drew)); exact HO1229.out) hb); have n1_ := Aside0.mk (below_step (by repeat (first | (with_reducible first | exact HB.out | apply below_alloc | apply pw_below_drewN | apply below_drew1) | exact HB.out)) hb); clear HO1229; clear HB; have HO1229 := n0_; have HB := n1_; clear n0_ n1_; (try clear hb); (try clear hb2); (try clear hk); (try clear hi)) | ((with_reducible refine gate_callee (f := 74) rfl ?_); refine goesL_ (some 6) rfl rfl Try.func74 (by kernel_rfl) rfl #[.agg (sv t1230)] rfl (by (try simp only [List.map_toArray, List.map_cons, List.map_nil]); first | done | rfl | (simp only [List.length_drop, List.length_take]; rfl)) ?_; (with_reducible refine (scalar_Half.calls k t1230 t1231 _ A4.out).mono ?_); rintro e w51 ⟨rfl, hb⟩; refine ⟨_, rfl, ?_⟩; have n0_ := Aside0.mk (Kd.R_below (by (with_reducible repeat (first | apply Kd.R_alloc | apply Kd.R_drewN | apply Kd.R_drew)); exact HO1229.out) hb); have n1_ := Aside0.mk (below_step (by repeat (first | (with_reducible first | exact HB.out | apply below_alloc | apply pw_below_drewN | apply below_drew1) | exact HB.out)) hb); clear HO1229; clear HB; have HO1229 := n0_; have HB := n1_; clear n0_ n1_; (try clear hb); (try clear hb2); (try clear hk); (try clear hi)) | ((with_reducible refine gate_dst (N := 2) rfl ?_); refine box_event ?hg (N := 2) ?hd (cs := zv) (t := 73) ?hr ?_; (case hd => rfl); (case hg => rfl); (case hr => first | (go_simp; done) | (go_simp; rfl)); intro gb1232 hg w52 hbox hb; have n0_ := Aside0.mk (Kd.R_below (by (with_reducible repeat (first | apply Kd.R_alloc | apply Kd.R_drewN | apply Kd.R_drew)); exact HO1229.out) hb); have n1_ := Aside0.mk (below_step (by repeat (first | (with_reducible first | exact HB.out | apply below_alloc | apply pw_below_drewN | apply below_drew1) | exact HB.out)) hb); have n2_ := Aside0.mk (hbox); have n3_ := Aside0.mk ((by rw [hg]; exact (below_size (by repeat (first | (with_reducible first | exact HB.out | apply below_alloc | apply pw_below_drewN | apply below_drew1) | exact HB.out))) : w.heap.size ≤ gb1232)); have n4_ := Aside0.mk ((by rw [hg]; exact (below_size (by repeat (first | (with_reducible first | exact HB.out | apply below_alloc | apply pw_below_drewN | apply below_drew1) | exact HB.out))) : w.heap.size ≤ gb1232)); clear HO1229; clear HB; have HO1229 := n0_; have HB := n1_; have BK1232 := n2_; have GW1232 := n3_; have GE1232 := n4_; clear n0_ n1_ n2_ n3_ n4_; clear hb hbox hg; obtain ⟨hcz53_0, hcz53_0_c1, hcz53_0_c2, hcz53_0_c3, hcz53_0_c4, hcz53_0_c5, hcz53_0_c6⟩ := c7_of (a := z7) BK1232.out rfl; obtain ⟨hfz53_0, hfz53_0_c1, hfz53_0_c2, hfz53_0_c3, hfz53_0_c4, hfz53_0_c5, hfz53_0_c6⟩ := fz7 BK1232.out; obtain ⟨Ao54, co54, eo54⟩ := Kd.R_slice HO1229.out; subst eo54; have p1233 : 0 ≤ (0 : Int) := (by omega); have q1233 : 0 < (t1227.length : Int) := of_decide_eq_true (by first | (with_reducible assumption) | assumption); obtain ⟨ad1233, e1233, hx1233_0⟩ := Kd.at_int (Kd.R_reads' HO1229.out).2.2 0 p1233 q1233; cases e1233; have qi1233 : (0 < t1227.length) = True := eq_true (by omega); (try rw [show ((0 : Int)).toNat = 0 from rfl] at hx1233_0); (try rw [Addr.add_zero'] at hx1233_0); have hn1233_0 : ad1233.block ≠ gb1232 := Kd.own_blk (Kd.R_ne HO1229.out BK1232.out (by decide)); replace hx1233_0 := (cell_put7 (p := gb1232) (by first | (rw [add_block]; exact hn1233_0) | (show (Addr.add _ _).block ≠ _; rw [add_block]; exact hn1233_0) | exact hn1233_0) t1231).trans hx1233_0; clear hn1233_0; replace p1233 := eq_true p1233; replace q1233 := eq_true q1233))
        go_ret
        exact ⟨by first | rfl | (simp [errW_none, errW_some] <;> rfl) | (simp [*, errW_none, errW_some] <;> rfl), by repeat (first | (with_reducible first | exact HB.out | apply below_alloc | apply pw_below_drewN | apply below_drew1 | refine below_set ?_ GE1232.out) | exact HB.out)⟩
    · rw [if_neg c6] at H
      exact absurd H (by simp)
  · rw [if_neg c5] at H
    have c5b0 : ((t1227.length : Int) == 57) = false := beq_eq_false_iff_ne.mpr c5
    have c5b1 : ((t1227.length : Int) != 57) = true := bne_iff_ne.mpr c5
    obtain rfl := Option.some.inj H
    go_enter Try.func71, Try.ntmps71
    go_wp2_with (first | ((with_reducible refine gate_callee (f := 69) rfl ?_); refine goesL_ (some 3) rfl rfl Try.func69 (by kernel_rfl) rfl #[.int .i64 (-1)] rfl (by (try simp only [List.map_toArray, List.map_cons, List.map_nil]); first | done | rfl | (simp only [List.length_drop, List.length_take]; rfl)) ?_; (with_reducible refine (scalar_Int.calls k (-1) t1226 _ A1.out).mono ?_); rintro e w55 ⟨rfl, hb⟩; refine ⟨_, rfl, ?_⟩; have n0_ := Aside0.mk (below_step (by repeat (first | (with_reducible first | exact HB.out | apply below_alloc | apply pw_below_drewN | apply below_drew1) | exact HB.out)) hb); clear HB; have HB := n0_; clear n0_; (try clear hb); (try clear hb2); (try clear hk); (try clear hi)) | ((with_reducible refine gate_callee (f := 89) rfl ?_); refine goesL_ (some 4) rfl rfl Try.func89 (by kernel_rfl) rfl #[.agg (sv t1226)] rfl (by (try simp only [List.map_toArray, List.map_cons, List.map_nil]); first | done | rfl | (simp only [List.length_drop, List.length_take]; rfl)) ?_; (with_reducible refine (scalar_Bytes.calls k t1226 t1227 _ A2.out).mono ?_); rintro e w56 ⟨v1228, rfl, ho0, hb⟩; refine ⟨_, rfl, ?_⟩; have n0_ := Aside0.mk (Kd.R_lower ho0 (below_size (by repeat (first | (with_reducible first | exact HB.out | apply below_alloc | apply pw_below_drewN | apply below_drew1) | exact HB.out)))); have n1_ := Aside0.mk (below_step (by repeat (first | (with_reducible first | exact HB.out | apply below_alloc | apply pw_below_drewN | apply below_drew1) | exact HB.out)) hb); clear HB; have HO1229 := n0_; have HB := n1_; clear n0_ n1_; (try clear hb); (try clear hb2); (try clear hk); (try clear hi); (try clear ho0)) | ((with_reducible refine gate_callee (f := 69) rfl ?_); refine goesL_ (some 5) rfl rfl Try.func69 (by kernel_rfl) rfl #[.int .i64 1] rfl (by (try simp only [List.map_toArray, List.map_cons, List.map_nil]); first | done | rfl | (simp only [List.length_drop, List.length_take]; rfl)) ?_; (with_reducible refine (scalar_Int.calls k 1 t1230 _ A3.out).mono ?_); rintro e w57 ⟨rfl, hb⟩; refine ⟨_, rfl, ?_⟩; have n0_ := Aside0.mk (Kd.R_below (by (with_reducible repeat (first | apply Kd.R_alloc | apply Kd.R_drewN | apply Kd.R_drew)); exact HO1229.out) hb); have n1_ := Aside0.mk (below_step (by repeat (first | (with_reducible first | exact HB.out | apply below_alloc | apply pw_below_drewN | apply below_drew1) | exact HB.out)) hb); clear HO1229; clear HB; have HO1229 := n0_; have HB := n1_; clear n0_ n1_; (try clear hb); (try clear hb2); (try clear hk); (try clear hi)) | ((with_reducible refine gate_callee (f := 74) rfl ?_); refine goesL_ (some 6) rfl rfl Try.func74 (by kernel_rfl) rfl #[.agg (sv t1230)] rfl (by (try simp only [List.map_toArray, List.map_cons, List.map_nil]); first | done | rfl | (simp only [List.length_drop, List.length_take]; rfl)) ?_; (with_reducible refine (scalar_Half.calls k t1230 t1231 _ A4.out).mono ?_); rintro e w58 ⟨rfl, hb⟩; refine ⟨_, rfl, ?_⟩; have n0_ := Aside0.mk (Kd.R_below (by (with_reducible repeat (first | apply Kd.R_alloc | apply Kd.R_drewN | apply Kd.R_drew)); exact HO1229.out) hb); have n1_ := Aside0.mk (below_step (by repeat (first | (with_reducible first | exact HB.out | apply below_alloc | apply pw_below_drewN | apply below_drew1) | exact HB.out)) hb); clear HO1229; clear HB; have HO1229 := n0_; have HB := n1_; clear n0_ n1_; (try clear hb); (try clear hb2); (try clear hk); (try clear hi)) | ((with_reducible refine gate_dst (N := 2) rfl ?_); refine box_event ?hg (N := 2) ?hd (cs := zv) (t := 73) ?hr ?_; (case hd => rfl); (case hg => rfl); (case hr => first | (go_simp; done) | (go_simp; rfl)); intro gb1232 hg w59 hbox hb; have n0_ := Aside0.mk (Kd.R_below (by (with_reducible repeat (first | apply Kd.R_alloc | apply Kd.R_drewN | apply Kd.R_drew)); exact HO1229.out) hb); have n1_ := Aside0.mk (below_step (by repeat (first | (with_reducible first | exact HB.out | apply below_alloc | apply pw_below_drewN | apply below_drew1) | exact HB.out)) hb); have n2_ := Aside0.mk (hbox); have n3_ := Aside0.mk ((by rw [hg]; exact (below_size (by repeat (first | (with_reducible first | exact HB.out | apply below_alloc | apply pw_below_drewN | apply below_drew1) | exact HB.out))) : w.heap.size ≤ gb1232)); have n4_ := Aside0.mk ((by rw [hg]; exact (below_size (by repeat (first | (with_reducible first | exact HB.out | apply below_alloc | apply pw_below_drewN | apply below_drew1) | exact HB.out))) : w.heap.size ≤ gb1232)); clear HO1229; clear HB; have HO1229 := n0_; have HB := n1_; have BK1232 := n2_; have GW1232 := n3_; have GE1232 := n4_; clear n0_ n1_ n2_ n3_ n4_; clear hb hbox hg; obtain ⟨hcz60_0, hcz60_0_c1, hcz60_0_c2, hcz60_0_c3, hcz60_0_c4, hcz60_0_c5, hcz60_0_c6⟩ := c7_of (a := z7) BK1232.out rfl; obtain ⟨hfz60_0, hfz60_0_c1, hfz60_0_c2, hfz60_0_c3, hfz60_0_c4, hfz60_0_c5, hfz60_0_c6⟩ := fz7 BK1232.out; obtain ⟨Ao61, co61, eo61⟩ := Kd.R_slice HO1229.out; subst eo61))
    go_ret
    exact ⟨by first | rfl | (simp [errW_none, errW_some] <;> rfl) | (simp [*, errW_none, errW_some] <;> rfl), by repeat (first | (with_reducible first | exact HB.out | apply below_alloc | apply pw_below_drewN | apply below_drew1 | refine below_set ?_ GE1232.out) | exact HB.out)⟩
end Go.Proofs.Ytdaehflffecllaa.N
namespace Go.Proofs.Ytdaehflffecllaa.N
open Go.RowKit Go.Proofs.YtdaehflffecllaaW.PrintWords Go.Proofs.YtdaehflffecllaaW.PrintLast Go.Proofs.YtdaehflffecllaaW.PrintMore
attribute [local go_sem] max2_int min2_int max_two min_two max_three min_three max_four min_four   -- for this text's walks alone
set_option linter.unusedVariables false
set_option linter.unusedSimpArgs false
def slices_Clone_bytes.f (l0 : List Int) : Option (List Int) := if l0.length < 140737488355328 then some l0 else none
set_option maxHeartbeats 8000000 in
set_option maxRecDepth 100000 in
theorem slices_Clone_bytes.calls (A0 : Option Addr) (c0 : Nat) (l0 : List Int) (r : List Int) (w : World) (hr0 : Kd.C (Kd.int .u8) w A0 l0.length l0) (hc0 : l0.length ≤ c0) (h : slices_Clone_bytes.f l0 = some r) :
    Calls Try.prog 109 #[.slice A0 l0.length c0] w fun e w' => ∃ v0_ : Value, e = .returned (v0_) ∧ Kd.R (Kd.int .u8) 5 w' w.heap.size (fun _ => True) v0_ r ∧ Below w.heap.size w w' := by
  have HR0 := Aside0.mk hr0
  have HC0 := Aside0.mk hc0
  have HB := Aside0.mk (Below.refl w.heap.size w)
  have hlen : l0.length < 140737488355328 ∧ r = l0 := by
    unfold slices_Clone_bytes.f at h
    split at h
    · rename_i hc; exact ⟨hc, (Option.some.inj h).symm⟩
    · cases h
  obtain ⟨hlen, rfl⟩ := hlen
  have LM := Aside0.mk hlen
  clear hr0 hc0 h hlen
  have q22 : ∀ (w : World) (a : Option Addr) (n c n' c' : Nat), (binOp .eql 22 (.slice a n c) (.slice none n' c')).run Try.prog w = .ok (.bool a.isNone) w := fun w a n c n' c' => Lib.run_eql_slice_nil w _ _ a n c n' c' Try.underlying22
  cases A0 with
  | none =>
    have hz : r = [] := by
      by_cases hz : r = []
      · exact hz
      · exfalso
        have hp : 0 < r.length := List.length_pos_iff.2 hz
        obtain ⟨ad, _, e, _⟩ := Kd.C_get HR0.out (0 : Int) 0 (by omega) (by omega)
        cases e
    subst hz
    go_enter Try.func109, Try.ntmps109
    go_wp2
    go_ret
    exact ⟨_, rfl, Kd.R_nil _ _ _ _ _, HB.out⟩
  | some ad =>
    go_enter Try.func109, Try.ntmps109
    go_wp2_with (first | ((with_reducible refine gate_builtin (b := .append) (xs := #[.tmp 5, .tmp 6]) rfl ?_); at_builtin; refine Kd.R_append_rows (Kd.int .u8) (w0 := w) w.heap.size rfl (.tmp 5) (.tmp 6) 22 5 (.int .u8 0) 1 rfl Try.underlying22 info5 rfl (by decide) (by omega) _ ([] : List Int) r _ _ _ (fun _ => True) (fun _ => False) rfl rfl ?aO ?aR (fun _ _ h => h) (fun _ h => h.elim) ?aF ?aB ?aS ?aL ?_))
    case aO => exact Kd.R_of_own (enc := Value.int .u8) (h1 := fun _ => rfl) (xs := []) (World.ownsRow_made w #[] 0 (Nat.le_refl _) (Nat.zero_le _) rfl) (fun _ _ => trivial)
    case aR => exact Kd.C_alloc HR0.out _
    case aF => exact fun _ _ => trivial
    case aB => exact below_alloc (Below.refl _ _) _
    case aS => simp
    case aL => have := LM.out; simp; omega
    intro v1 w3 ho hb hg hat
    go_wp2
    go_ret
    exact ⟨_, rfl, ho, hb⟩
set_option maxHeartbeats 8000000 in
set_option maxRecDepth 100000 in
theorem scalar_turn.walk (gb go n c i : Nat) (x keep set : Int) (w : World) (hbox : w.heap[gb]? = some (.cells #[.slice (some ⟨go, 0, none⟩) n c] 22 (0, 0))) (hcell : w.cell? ⟨go, i, none⟩ = some (.int .u8 x)) (hfr : w.frozen? ⟨go, i, none⟩ = false) (hi : i < n) (hn : n ≤ 1000) :
    Calls Try.prog 110 #[.int .i64 i, .int .u8 keep, .int .u8 set, .pointer (some ⟨gb, 0, none⟩)] w fun e w' => e = .returned (.tuple #[]) ∧ w' = w.drew.setCell ⟨go, i, none⟩ (.int .u8 (Go.bits .or .u8 (Go.bits .and .u8 x keep) set)) := by
  have hcz : w.cell? ⟨gb, 0, none⟩ = some (.slice (some ⟨go, 0, none⟩) n c) := (blk_cell hbox 0).trans rfl
  have hfz := blk_frozen hbox 0
  have h0 : (0 ≤ (i : Int)) = True := eq_true (by omega)
  have h1 : ((i : Int) < (n : Int)) = True := eq_true (by omega)
  have h2 : (i < n) = True := eq_true hi
  clear hbox
  go_enter Try.func110, Try.ntmps110
  go_wp2
  refine start_ (n := 12) (S := fun w' => w'.cell? ⟨gb, 0, none⟩ = some (.slice (some ⟨go, 0, none⟩) n c) ∧ w'.cell? ⟨go, i, none⟩ = some (.int .u8 x)) (ds := [11]) #[false, false, false, false, false, false, false, false, false, false, false, false] (by kernel_rfl) rfl rfl ⟨hcz, hcell⟩ (fun hHeld => ?_)
  generalize hwd : w.drew = wd at hHeld ⊢
  refine pure_ (i := 1) (N := some 8) (v := ?_) (a' := ?_) #[false, true, false, false, false, false, false, false, false, false, false, false] rfl rfl (by kernel_rfl) (fun _ _ _ h => h) (Or.inl ⟨by rfl, ?_⟩) ?_ ?_
  rotate_left
  · intro w'
    go_simp
    with_reducible rfl
  rotate_left
  · simp only [Act.put, List.setIfInBounds_toArray, List.set_cons_zero, List.set_cons_succ, i64_w, i32_w]
    rfl
  refine pure_ (i := 3) (N := some 10) (v := ?_) (a' := ?_) #[false, true, false, true, false, false, false, false, false, false, false, false] rfl rfl (by kernel_rfl) (fun _ _ _ h => h) (Or.inl ⟨by rfl, ?_⟩) ?_ ?_
  rotate_left
  · intro w'
    go_simp
    with_reducible rfl
  rotate_left
  · simp only [Act.put, List.setIfInBounds_toArray, List.set_cons_zero, List.set_cons_succ, i64_w, i32_w]
    rfl
  refine pure_ (i := 6) (N := some 13) (v := ?_) (a' := ?_) #[false, true, false, true, false, false, true, false, false, false, false, false] rfl rfl (by kernel_rfl) (fun _ _ _ h => h) (Or.inl ⟨by rfl, ?_⟩) ?_ ?_
  rotate_left
  · intro w'
    go_simp
    with_reducible rfl
  rotate_left
  · simp only [Act.put, List.setIfInBounds_toArray, List.set_cons_zero, List.set_cons_succ, i64_w, i32_w]
    rfl
  refine pure_ (i := 8) (N := some 15) (v := ?_) (a' := ?_) #[false, true, false, true, false, false, true, false, true, false, false, false] rfl rfl (by kernel_rfl) (fun _ _ _ h => h) (Or.inl ⟨by rfl, ?_⟩) ?_ ?_
  rotate_left
  · intro w'
    go_simp
    with_reducible rfl
  rotate_left
  · simp only [Act.put, List.setIfInBounds_toArray, List.set_cons_zero, List.set_cons_succ, i64_w, i32_w]
    rfl
  refine take_ (i := 0) (N := some 7) (v := ?_) (a' := ?_) #[true, true, false, true, false, false, true, false, true, false, false, false] rfl rfl (by kernel_rfl) (fun _ _ _ h => h) (Or.inl ⟨by rfl, ?_⟩) hHeld ?_ ?_
  rotate_left
  · rintro w' ⟨s0, s1⟩
    go_simp
    with_reducible rfl
  rotate_left
  · simp only [Act.put, List.setIfInBounds_toArray, List.set_cons_zero, List.set_cons_succ, i64_w, i32_w]
    rfl
  refine take_ (i := 2) (N := some 9) (v := ?_) (a' := ?_) #[true, true, true, true, false, false, true, false, true, false, false, false] rfl rfl (by kernel_rfl) (fun _ _ _ h => h) (Or.inl ⟨by rfl, ?_⟩) hHeld ?_ ?_
  rotate_left
  · rintro w' ⟨s0, s1⟩
    go_simp
    with_reducible rfl
  rotate_left
  · simp only [Act.put, List.setIfInBounds_toArray, List.set_cons_zero, List.set_cons_succ, i64_w, i32_w]
    rfl
  refine pure_ (i := 4) (N := some 11) (v := ?_) (a' := ?_) #[true, true, true, true, true, false, true, false, true, false, false, false] rfl rfl (by kernel_rfl) (fun _ _ _ h => h) (Or.inl ⟨by rfl, ?_⟩) ?_ ?_
  rotate_left
  · intro w'
    go_simp
    with_reducible rfl
  rotate_left
  · simp only [Act.put, List.setIfInBounds_toArray, List.set_cons_zero, List.set_cons_succ, i64_w, i32_w]
    rfl
  refine take_ (i := 5) (N := some 12) (v := ?_) (a' := ?_) #[true, true, true, true, true, true, true, false, true, false, false, false] rfl rfl (by kernel_rfl) (fun _ _ _ h => h) (Or.inl ⟨by rfl, ?_⟩) hHeld ?_ ?_
  rotate_left
  · rintro w' ⟨s0, s1⟩
    go_simp
    with_reducible rfl
  rotate_left
  · simp only [Act.put, List.setIfInBounds_toArray, List.set_cons_zero, List.set_cons_succ, i64_w, i32_w]
    rfl
  refine pure_ (i := 7) (N := some 14) (v := ?_) (a' := ?_) #[true, true, true, true, true, true, true, true, true, false, false, false] rfl rfl (by kernel_rfl) (fun _ _ _ h => h) (Or.inl ⟨by rfl, ?_⟩) ?_ ?_
  rotate_left
  · intro w'
    go_simp
    with_reducible rfl
  rotate_left
  · simp only [Act.put, List.setIfInBounds_toArray, List.set_cons_zero, List.set_cons_succ, i64_w, i32_w]
    rfl
  refine pure_ (i := 9) (N := some 16) (v := ?_) (a' := ?_) #[true, true, true, true, true, true, true, true, true, true, false, false] rfl rfl (by kernel_rfl) (fun _ _ _ h => h) (Or.inl ⟨by rfl, ?_⟩) ?_ ?_
  rotate_left
  · intro w'
    go_simp
    with_reducible rfl
  rotate_left
  · simp only [Act.put, List.setIfInBounds_toArray, List.set_cons_zero, List.set_cons_succ, i64_w, i32_w]
    rfl
  refine pure_ (i := 10) (N := some 17) (v := ?_) (a' := ?_) #[true, true, true, true, true, true, true, true, true, true, true, false] rfl rfl (by kernel_rfl) (fun _ _ _ h => h) (Or.inl ⟨by rfl, ?_⟩) ?_ ?_
  rotate_left
  · intro w'
    go_simp
    with_reducible rfl
  rotate_left
  · simp only [Act.put, List.setIfInBounds_toArray, List.set_cons_zero, List.set_cons_succ, i64_w, i32_w]
    rfl
  refine last_ (i := 11) (N := none) #[true, true, true, true, true, true, true, true, true, true, true, true] rfl rfl (by kernel_rfl) (by decide) (fun K hK => ?_)
  have hfz2 : wd.frozen? ⟨go, i, none⟩ = false := by rw [← hwd]; exact hfr
  have hc2 := hHeld.2
  refine skip_ (w1 := ?_) (by rfl) rfl ?_ ?_
  rotate_left
  · go_simp
    rfl
  refine hK.out _ _ ?_
  clear hK K
  refine done_ (by kernel_rfl) ?_
  refine ⟨rfl, .tuple #[], by simp [results, show Try.f110.results = #[] from rfl], rfl, ?_⟩
  rw [hwd]
def tb (x keep set : Int) : Int := Go.bits .or .u8 (Go.bits .and .u8 x keep) set
theorem scalar_turn.calls (gb go n c i : Nat) (keep set : Int) (l : List Int) (base : Nat) (ok : Nat → Prop) (w : World) (hgo : gb ≠ go) (hbox : w.heap[gb]? = some (.cells #[.slice (some ⟨go, 0, none⟩) n c] 22 (0, 0)))
    (hR : Kd.R (Kd.int .u8) 5 w base ok (.slice (some ⟨go, 0, none⟩) n c) l) (hi : i < n) (hn : n ≤ 1000) :
    Calls Try.prog 110 #[.int .i64 i, .int .u8 keep, .int .u8 set, .pointer (some ⟨gb, 0, none⟩)] w fun e w' => e = .returned (.tuple #[]) ∧ w'.heap[gb]? = some (.cells #[.slice (some ⟨go, 0, none⟩) n c] 22 (0, 0)) ∧ Kd.R (Kd.int .u8) 5 w' base ok (.slice (some ⟨go, 0, none⟩) n c) (l.set i (tb (rd l i) keep set)) ∧ ∀ w0 : World, Below w0.heap.size w0 w → w0.heap.size ≤ go → Below w0.heap.size w0 w' := by
  obtain ⟨h1, h2⟩ := Kd.R_celln 0 hR (i : Int) (by omega) (by omega)
  rw [Int.toNat_natCast] at h1 h2
  refine (scalar_turn.walk gb go n c i (rd l i) keep set w hbox h1 h2 hi hn).mono ?_
  rintro e w' ⟨rfl, rfl⟩
  have hp := Kd.R_putn (Kd.R_drew hR) (i : Int) (tb (rd l i) keep set)
  rw [Int.toNat_natCast] at hp
  exact ⟨rfl, blk_far (blk_drew hbox) hgo _, hp, fun w0 hb hg => below_set (below_drew1 hb) hg⟩
section
variable {P : Program} {ops : Array Oper} {Q : Exit → Act → World → Prop}
/-- A call of three through a closure with one box, in a plain region. -/
theorem goes3_ {rest : List Oper} {oi : Oper} {a : Act} {w : World} (N : Option Tmp) (hd : oi.dst = N) (hg : oi.guard = none) {f : FuncId} {fn : Func} (hf : P.funcs[f]? = some fn) (hname : (fn.name == "runtime.NumGoroutine") = false) (hb : fn.body.isSome = true) (x y z : Value) (g : Nat) {t : Tmp} {as_ : Array Operand} {ts : Array TypeId}
    (hop : oi.op = .call { callee := .value (.tmp t), args := as_, argTypes := ts }) (hargs : as_.map a.eval = #[x, y, z]) (hv : a.eval (.tmp t) = .func (.func f) #[] #[.pointer (some ⟨g, 0, none⟩)])
    (h : Calls P f #[x, y, z, .pointer (some ⟨g, 0, none⟩)] w fun e w' => ∃ v, e = .returned v ∧ wpList P ops Q rest (a.put N v) w') : wpList P ops Q (oi :: rest) a w := by
  refine wpList_plain hg fun K hK => ?_
  have he := enters_ hf hname hb #[x, y, z, .pointer (some ⟨g, 0, none⟩)] w
  have hrun : (execOp a.eval oi).run P w = .ok (.enter f #[x, y, z, .pointer (some ⟨g, 0, none⟩)]) w := by
    unfold execOp
    simp [hop, resolve, Deferred.ofValue, invoke, hargs, hv, he]
  unfold Oper.wp
  rw [hrun, Oper.upon_enter]
  refine h.mono fun e w'' hh => ?_
  obtain ⟨v, rfl, hk⟩ := hh
  subst hd
  exact hK _ _ hk
end
def clampL (l : List Int) : List Int :=
  let a := if l.length = 57 then l.set 56 (tb (rd l ((56 : Nat) : Int)) 0 0) else l
  let b := a.set 0 (tb (rd a ((0 : Nat) : Int)) 252 0)
  b.set 55 (tb (rd b ((55 : Nat) : Int)) 255 128)
def scalar_Clamp.f (l0 : List Int) : Option (List Int × Int) := if l0.length < 140737488355328 then (if l0.length = 56 ∨ l0.length = 57 then some (clampL l0, 0) else some ([], 11)) else none
set_option maxHeartbeats 8000000 in
set_option maxRecDepth 100000 in
theorem scalar_Clamp.calls (A0 : Option Addr) (c0 : Nat) (l0 : List Int) (r1 : List Int) (r2 : Int) (w : World) (hr0 : Kd.C (Kd.int .u8) w A0 l0.length l0) (hc0 : l0.length ≤ c0) (h : scalar_Clamp.f l0 = some (r1, r2)) :
    Calls Try.prog 78 #[.slice A0 l0.length c0] w fun e w' => ∃ v0_ : Value, e = .returned (.tuple #[v0_, .int .i64 r2]) ∧ Kd.R (Kd.int .u8) 5 w' w.heap.size (fun _ => True) v0_ r1 ∧ Below w.heap.size w w' := by
  unfold scalar_Clamp.f at h
  by_cases hlen : l0.length < 140737488355328
  · rw [if_pos hlen] at h
    have hcl : slices_Clone_bytes.f l0 = some l0 := by unfold slices_Clone_bytes.f; rw [if_pos hlen]
    have HR0 := Aside0.mk hr0
    have HC0 := Aside0.mk hc0
    have HCL := Aside0.mk hcl
    clear hr0 hc0 hcl
    by_cases h57 : l0.length = 57
    · rw [if_pos (.inr h57)] at h
      simp only [Option.some.injEq, Prod.mk.injEq] at h
      obtain ⟨rfl, rfl⟩ := h
      have c1 : ((l0.length : Int) == 57) = true := beq_iff_eq.mpr (by omega)
      have hcl : clampL l0 = ((l0.set 56 (tb (rd l0 ((56 : Nat) : Int)) 0 0)).set 0 (tb (rd (l0.set 56 (tb (rd l0 ((56 : Nat) : Int)) 0 0)) ((0 : Nat) : Int)) 252 0)).set 55 (tb (rd ((l0.set 56 (tb (rd l0 ((56 : Nat) : Int)) 0 0)).set 0 (tb (rd (l0.set 56 (tb (rd l0 ((56 : Nat) : Int)) 0 0)) ((0 : Nat) : Int)) 252 0)) ((55 : Nat) : Int)) 255 128) := by unfold clampL; rw [if_pos h57]
      have H5 := Aside0.mk h57
      clear h57
      go_enter Try.func78, Try.ntmps78
      go_wp2_with (first | ((with_reducible refine gate_callee (f := 109) rfl ?_); refine goesL_ (some 7) rfl rfl Try.func109 (by kernel_rfl) rfl #[.slice A0 l0.length c0] rfl (by (try simp only [List.map_toArray, List.map_cons, List.map_nil]); first | done | rfl) ?_; (with_reducible refine (slices_Clone_bytes.calls _ _ l0 l0 _ HR0.out HC0.out HCL.out).mono ?_); rintro e w1 ⟨v1, rfl, ho, hb⟩; refine ⟨_, rfl, ?_⟩; obtain ⟨go, cap, rfl, hgo, hgl, _⟩ := Kd.R_form ho (by have := H5.out; omega); have HO := Aside0.mk ho; have HB := Aside0.mk hb; have HG := Aside0.mk hgo; have HL := Aside0.mk hgl; clear ho hb hgo hgl) | ((with_reducible refine gate_dst (N := 4) rfl ?_); refine box_event ?hg (N := 4) ?hd (cs := #[.slice none 0 0]) (t := 22) ?hr ?_; (case hd => rfl); (case hg => rfl); (case hr => first | (go_simp; done) | (go_simp; rfl)); intro gb hg w2 hbox hb; have NE := Aside0.mk ((by rw [hg]; exact Nat.ne_of_gt HL.out) : gb ≠ go); have n0_ := Aside0.mk (Kd.R_below (Kd.R_elderB HO.out gb (Nat.le_of_eq hg.symm)) hb); have n1_ := Aside0.mk (below_step HB.out hb); have GE := Aside0.mk ((by rw [hg]; exact (below_size HB.out)) : w.heap.size ≤ gb); clear HO HB; have HO := n0_; have HB := n1_; have BK := Aside0.mk hbox; clear n0_ n1_; have hcz := (blk_cell hbox 0).trans (show (#[Value.slice none 0 0])[0]? = some (.slice none 0 0) from rfl); have hfz := blk_frozen hbox 0; clear hbox hb hg) | ((with_reducible refine gate_dst (N := 14) rfl ?_); refine goes3_ (some 14) rfl rfl Try.func110 (by kernel_rfl) rfl (.int .i64 56) (.int .u8 0) (.int .u8 0) gb rfl (by (try simp only [List.map_toArray, List.map_cons, List.map_nil]); first | done | rfl) rfl ?_; refine (scalar_turn.calls gb go l0.length cap 56 0 0 l0 w.heap.size (fun k_ => True ∧ k_ ≠ gb) _ NE.out (blk_put (cs := #[.slice none 0 0]) BK.out 0 _ rfl) (Kd.R_far (p := ⟨gb, 0, none⟩) HO.out (fun _ hk => hk.2) _) (by have := H5.out; omega) (by have := H5.out; omega)).mono ?_; rintro e w5 ⟨rfl, hbx, hr, hbl⟩; refine ⟨_, rfl, ?_⟩; have n1_ := Aside0.mk (hbl w (below_set HB.out GE.out) HG.out); clear BK HO HB; (try clear hcz hfz); have BK := Aside0.mk hbx; have HO := Aside0.mk hr; have HB := n1_; clear n1_ hbx hr hbl; (have hcy := (blk_cell BK.out 0).trans (show (#[Value.slice (some ⟨go, 0, none⟩) l0.length cap])[0]? = some (.slice (some ⟨go, 0, none⟩) l0.length cap) from rfl)); (try have hfy := blk_frozen BK.out 0)) | ((with_reducible refine gate_dst (N := 18) rfl ?_); refine goes3_ (some 18) rfl rfl Try.func110 (by kernel_rfl) rfl (.int .i64 0) (.int .u8 252) (.int .u8 0) gb rfl (by (try simp only [List.map_toArray, List.map_cons, List.map_nil]); first | done | rfl) rfl ?_; refine (scalar_turn.calls gb go l0.length cap 0 252 0 (l0.set 56 (tb (rd l0 ((56 : Nat) : Int)) 0 0)) w.heap.size (fun k_ => True ∧ k_ ≠ gb) _ NE.out (BK.out) (HO.out) (by have := H5.out; omega) (by have := H5.out; omega)).mono ?_; rintro e w5 ⟨rfl, hbx, hr, hbl⟩; refine ⟨_, rfl, ?_⟩; have n1_ := Aside0.mk (hbl w (HB.out) HG.out); clear BK HO HB; (try clear hcz hfz); have BK := Aside0.mk hbx; have HO := Aside0.mk hr; have HB := n1_; clear n1_ hbx hr hbl; (have hcy := (blk_cell BK.out 0).trans (show (#[Value.slice (some ⟨go, 0, none⟩) l0.length cap])[0]? = some (.slice (some ⟨go, 0, none⟩) l0.length cap) from rfl)); (try have hfy := blk_frozen BK.out 0)) | ((with_reducible refine gate_dst (N := 20) rfl ?_); refine goes3_ (some 20) rfl rfl Try.func110 (by kernel_rfl) rfl (.int .i64 55) (.int .u8 255) (.int .u8 128) gb rfl (by (try simp only [List.map_toArray, List.map_cons, List.map_nil]); first | done | rfl) rfl ?_; refine (scalar_turn.calls gb go l0.length cap 55 255 128 ((l0.set 56 (tb (rd l0 ((56 : Nat) : Int)) 0 0)).set 0 (tb (rd (l0.set 56 (tb (rd l0 ((56 : Nat) : Int)) 0 0)) ((0 : Nat) : Int)) 252 0)) w.heap.size (fun k_ => True ∧ k_ ≠ gb) _ NE.out (BK.out) (HO.out) (by have := H5.out; omega) (by have := H5.out; omega)).mono ?_; rintro e w5 ⟨rfl, hbx, hr, hbl⟩; refine ⟨_, rfl, ?_⟩; have n1_ := Aside0.mk (hbl w (HB.out) HG.out); clear BK HO HB; (try clear hcz hfz); have BK := Aside0.mk hbx; have HO := Aside0.mk hr; have HB := n1_; clear n1_ hbx hr hbl; (have hcy := (blk_cell BK.out 0).trans (show (#[Value.slice (some ⟨go, 0, none⟩) l0.length cap])[0]? = some (.slice (some ⟨go, 0, none⟩) l0.length cap) from rfl)); (try have hfy := blk_frozen BK.out 0)))
      go_ret2
      exact ⟨_, rfl, by rw [hcl]; exact Kd.R_mono HO.out (fun _ _ => trivial), HB.out⟩
    · by_cases h56 : l0.length = 56
      · rw [if_pos (.inl h56)] at h
        simp only [Option.some.injEq, Prod.mk.injEq] at h
        obtain ⟨rfl, rfl⟩ := h
        have c1 : ((l0.length : Int) == 57) = false := beq_eq_false_iff_ne.mpr (by omega)
        have c2 : ((l0.length : Int) == 56) = true := beq_iff_eq.mpr (by omega)
        have hcl : clampL l0 = (l0.set 0 (tb (rd l0 ((0 : Nat) : Int)) 252 0)).set 55 (tb (rd (l0.set 0 (tb (rd l0 ((0 : Nat) : Int)) 252 0)) ((55 : Nat) : Int)) 255 128) := by unfold clampL; rw [if_neg h57]
        have H5 := Aside0.mk h56
        clear h56 h57
        go_enter Try.func78, Try.ntmps78
        go_wp2_with (first | ((with_reducible refine gate_callee (f := 109) rfl ?_); refine goesL_ (some 7) rfl rfl Try.func109 (by kernel_rfl) rfl #[.slice A0 l0.length c0] rfl (by (try simp only [List.map_toArray, List.map_cons, List.map_nil]); first | done | rfl) ?_; (with_reducible refine (slices_Clone_bytes.calls _ _ l0 l0 _ HR0.out HC0.out HCL.out).mono ?_); rintro e w1 ⟨v1, rfl, ho, hb⟩; refine ⟨_, rfl, ?_⟩; obtain ⟨go, cap, rfl, hgo, hgl, _⟩ := Kd.R_form ho (by have := H5.out; omega); have HO := Aside0.mk ho; have HB := Aside0.mk hb; have HG := Aside0.mk hgo; have HL := Aside0.mk hgl; clear ho hb hgo hgl) | ((with_reducible refine gate_dst (N := 4) rfl ?_); refine box_event ?hg (N := 4) ?hd (cs := #[.slice none 0 0]) (t := 22) ?hr ?_; (case hd => rfl); (case hg => rfl); (case hr => first | (go_simp; done) | (go_simp; rfl)); intro gb hg w2 hbox hb; have NE := Aside0.mk ((by rw [hg]; exact Nat.ne_of_gt HL.out) : gb ≠ go); have n0_ := Aside0.mk (Kd.R_below (Kd.R_elderB HO.out gb (Nat.le_of_eq hg.symm)) hb); have n1_ := Aside0.mk (below_step HB.out hb); have GE := Aside0.mk ((by rw [hg]; exact (below_size HB.out)) : w.heap.size ≤ gb); clear HO HB; have HO := n0_; have HB := n1_; have BK := Aside0.mk hbox; clear n0_ n1_; have hcz := (blk_cell hbox 0).trans (show (#[Value.slice none 0 0])[0]? = some (.slice none 0 0) from rfl); have hfz := blk_frozen hbox 0; clear hbox hb hg) | ((with_reducible refine gate_dst (N := 18) rfl ?_); refine goes3_ (some 18) rfl rfl Try.func110 (by kernel_rfl) rfl (.int .i64 0) (.int .u8 252) (.int .u8 0) gb rfl (by (try simp only [List.map_toArray, List.map_cons, List.map_nil]); first | done | rfl) rfl ?_; refine (scalar_turn.calls gb go l0.length cap 0 252 0 l0 w.heap.size (fun k_ => True ∧ k_ ≠ gb) _ NE.out (blk_put (cs := #[.slice none 0 0]) BK.out 0 _ rfl) (Kd.R_far (p := ⟨gb, 0, none⟩) HO.out (fun _ hk => hk.2) _) (by have := H5.out; omega) (by have := H5.out; omega)).mono ?_; rintro e w5 ⟨rfl, hbx, hr, hbl⟩; refine ⟨_, rfl, ?_⟩; have n1_ := Aside0.mk (hbl w (below_set HB.out GE.out) HG.out); clear BK HO HB; (try clear hcz hfz); have BK := Aside0.mk hbx; have HO := Aside0.mk hr; have HB := n1_; clear n1_ hbx hr hbl; (have hcy := (blk_cell BK.out 0).trans (show (#[Value.slice (some ⟨go, 0, none⟩) l0.length cap])[0]? = some (.slice (some ⟨go, 0, none⟩) l0.length cap) from rfl)); (try have hfy := blk_frozen BK.out 0)) | ((with_reducible refine gate_dst (N := 20) rfl ?_); refine goes3_ (some 20) rfl rfl Try.func110 (by kernel_rfl) rfl (.int .i64 55) (.int .u8 255) (.int .u8 128) gb rfl (by (try simp only [List.map_toArray, List.map_cons, List.map_nil]); first | done | rfl) rfl ?_; refine (scalar_turn.calls gb go l0.length cap 55 255 128 (l0.set 0 (tb (rd l0 ((0 : Nat) : Int)) 252 0)) w.heap.size (fun k_ => True ∧ k_ ≠ gb) _ NE.out (BK.out) (HO.out) (by have := H5.out; omega) (by have := H5.out; omega)).mono ?_; rintro e w5 ⟨rfl, hbx, hr, hbl⟩; refine ⟨_, rfl, ?_⟩; have n1_ := Aside0.mk (hbl w (HB.out) HG.out); clear BK HO HB; (try clear hcz hfz); have BK := Aside0.mk hbx; have HO := Aside0.mk hr; have HB := n1_; clear n1_ hbx hr hbl; (have hcy := (blk_cell BK.out 0).trans (show (#[Value.slice (some ⟨go, 0, none⟩) l0.length cap])[0]? = some (.slice (some ⟨go, 0, none⟩) l0.length cap) from rfl)); (try have hfy := blk_frozen BK.out 0)))
        go_ret2
        exact ⟨_, rfl, by rw [hcl]; exact Kd.R_mono HO.out (fun _ _ => trivial), HB.out⟩
      · rw [if_neg (by omega)] at h
        simp only [Option.some.injEq, Prod.mk.injEq] at h
        obtain ⟨rfl, rfl⟩ := h
        have c1 : ((l0.length : Int) == 57) = false := beq_eq_false_iff_ne.mpr (by omega)
        have c2 : ((l0.length : Int) == 56) = false := beq_eq_false_iff_ne.mpr (by omega)
        go_enter Try.func78, Try.ntmps78
        go_wp2_with (first | ((with_reducible refine gate_callee (f := 109) rfl ?_); refine goesL_ (some 7) rfl rfl Try.func109 (by kernel_rfl) rfl #[.slice A0 l0.length c0] rfl (by (try simp only [List.map_toArray, List.map_cons, List.map_nil]); first | done | rfl) ?_; (with_reducible refine (slices_Clone_bytes.calls _ _ l0 l0 _ HR0.out HC0.out HCL.out).mono ?_); rintro e w1 ⟨v1, rfl, ho, hb⟩; refine ⟨_, rfl, ?_⟩; obtain ⟨Ao, co, eo⟩ := Kd.R_slice ho; subst eo; have HO := Aside0.mk ho; have HB := Aside0.mk hb; clear ho hb) | ((with_reducible refine gate_dst (N := 4) rfl ?_); refine box_event ?hg (N := 4) ?hd (cs := #[.slice none 0 0]) (t := 22) ?hr ?_; (case hd => rfl); (case hg => rfl); (case hr => first | (go_simp; done) | (go_simp; rfl)); intro gb hg w2 hbox hb; have n1_ := Aside0.mk (below_step HB.out hb); have GE := Aside0.mk ((by rw [hg]; exact (below_size HB.out)) : w.heap.size ≤ gb); clear HO HB; have HB := n1_; clear n1_; have hcz := (blk_cell hbox 0).trans (show (#[Value.slice none 0 0])[0]? = some (.slice none 0 0) from rfl); have hfz := blk_frozen hbox 0; clear hbox hb hg))
        go_ret2
        exact ⟨_, rfl, Kd.R_nil _ _ _ _ _, below_set HB.out GE.out⟩
  · rw [if_neg hlen] at h
    cases h
end Go.Proofs.Ytdaehflffecllaa.N
namespace Go.Proofs.Ytdaehflffecllaa.N
open Go.RowKit Go.Proofs.YtdaehflffecllaaW.PrintWords Go.Proofs.YtdaehflffecllaaW.PrintLast Go.Proofs.YtdaehflffecllaaW.PrintMore
attribute [local go_sem] max2_int min2_int max_two min_two max_three min_three max_four min_four   -- for this text's walks alone
set_option linter.unusedVariables false
set_option linter.unusedSimpArgs false
def chicoryref06_Clamp.f (l0 : List Int) : Option (List Int) := if ([] : List Int).length + l0.length < 140737488355328 then ((some (([] : List Int) ++ l0 : List Int)).bind fun y1341 => (if 0 < (y1341.length : Int) then ((some (y1341.set (0 : Int).toNat ((((Int.tdiv (rd y1341 0) 4) % 256) * 4) % 256) : List Int)).bind fun y1345 => (if 55 < (y1341.length : Int) then ((some (y1345.set (55 : Int).toNat (((Int.tmod (rd y1345 55) 128) + 128) % 256) : List Int)).bind fun y1347 => (if (y1341.length : Int) = 57 then (if 56 < (y1341.length : Int) then (some (y1347.set (56 : Int).toNat 0)) else (none)) else (some y1347))) else (none))) else (none))) else (none)
set_option maxHeartbeats 8000000 in
set_option maxRecDepth 100000 in
theorem chicoryref06_Clamp.calls (A0 : Option Addr) (c0 : Nat) (l0 : List Int) (r : List Int) (w : World) (hr0 : Kd.C (Kd.int .u8) w A0 l0.length l0) (hc0 : l0.length ≤ c0) (h : chicoryref06_Clamp.f l0 = some r) :
    Calls Try.prog 79 #[.slice A0 l0.length c0] w fun e w' => ∃ v0_ : Value, e = .returned (v0_) ∧ Kd.R (Kd.int .u8) 5 w' w.heap.size (fun _ => True) v0_ r ∧ Below w.heap.size w w' := by
  have HR0 := Aside0.mk hr0
  have HC0 := Aside0.mk hc0
  clear hr0 hc0
  have HB := Aside0.mk (Below.refl w.heap.size w)
  have H : (if ([] : List Int).length + l0.length < 140737488355328 then ((some (([] : List Int) ++ l0 : List Int)).bind fun y1341 => (if 0 < (y1341.length : Int) then ((some (y1341.set (0 : Int).toNat ((((Int.tdiv (rd y1341 0) 4) % 256) * 4) % 256) : List Int)).bind fun y1345 => (if 55 < (y1341.length : Int) then ((some (y1345.set (55 : Int).toNat (((Int.tmod (rd y1345 55) 128) + 128) % 256) : List Int)).bind fun y1347 => (if (y1341.length : Int) = 57 then (if 56 < (y1341.length : Int) then (some (y1347.set (56 : Int).toNat 0)) else (none)) else (some y1347))) else (none))) else (none))) else (none)) = some r := h
  clear h
  by_cases c2 : ([] : List Int).length + l0.length < 140737488355328
  · rw [if_pos c2] at H
    have LMc2 := Aside0.mk c2
    clear c2
    obtain ⟨y1341, hy1341⟩ : ∃ y_ : List Int, y_ = (([] : List Int) ++ l0) := ⟨_, rfl⟩
    replace H : (if 0 < (y1341.length : Int) then ((some (y1341.set (0 : Int).toNat ((((Int.tdiv (rd y1341 0) 4) % 256) * 4) % 256) : List Int)).bind fun y1345 => (if 55 < (y1341.length : Int) then ((some (y1345.set (55 : Int).toNat (((Int.tmod (rd y1345 55) 128) + 128) % 256) : List Int)).bind fun y1347 => (if (y1341.length : Int) = 57 then (if 56 < (y1341.length : Int) then (some (y1347.set (56 : Int).toNat 0)) else (none)) else (some y1347))) else (none))) else (none)) = some r := by first | (rw [hy1341]; with_reducible exact H) | (have H2_ := (Option.bind_some _ _).symm.trans H; rw [hy1341]; with_reducible exact H2_) | (have H2_ := (Option.bind_some _ _).symm.trans H; with_reducible exact H2_) | with_reducible exact H | (rw [hy1341]; exact H) | exact H
    have Ny1341 := Aside0.mk hy1341
    clear hy1341
    by_cases c3 : 0 < (y1341.length : Int)
    · rw [if_pos c3] at H
      have c3b0 : decide (0 < (y1341.length : Int)) = true := decide_eq_true c3
      have c3b1 : decide (0 < y1341.length) = true := decide_eq_true (by omega)
      clear c3
      obtain ⟨y1345, hy1345⟩ : ∃ y_ : List Int, y_ = (y1341.set (0 : Int).toNat ((((Int.tdiv (rd y1341 0) 4) % 256) * 4) % 256)) := ⟨_, rfl⟩
      replace H : (if 55 < (y1341.length : Int) then ((some (y1345.set (55 : Int).toNat (((Int.tmod (rd y1345 55) 128) + 128) % 256) : List Int)).bind fun y1347 => (if (y1341.length : Int) = 57 then (if 56 < (y1341.length : Int) then (some (y1347.set (56 : Int).toNat 0)) else (none)) else (some y1347))) else (none)) = some r := by first | (rw [hy1345]; with_reducible exact H) | (have H2_ := (Option.bind_some _ _).symm.trans H; rw [hy1345]; with_reducible exact H2_) | (have H2_ := (Option.bind_some _ _).symm.trans H; with_reducible exact H2_) | with_reducible exact H | (rw [hy1345]; exact H) | exact H
      have Ny1345 := Aside0.mk hy1345
      clear hy1345
      by_cases c5 : 55 < (y1341.length : Int)
      · rw [if_pos c5] at H
        have c5b0 : decide (55 < (y1341.length : Int)) = true := decide_eq_true c5
        have c5b1 : decide (55 < y1341.length) = true := decide_eq_true (by omega)
        clear c5
        obtain ⟨y1347, hy1347⟩ : ∃ y_ : List Int, y_ = (y1345.set (55 : Int).toNat (((Int.tmod (rd y1345 55) 128) + 128) % 256)) := ⟨_, rfl⟩
        replace H : (if (y1341.length : Int) = 57 then (if 56 < (y1341.length : Int) then (some (y1347.set (56 : Int).toNat 0)) else (none)) else (some y1347)) = some r := by first | (rw [hy1347]; with_reducible exact H) | (have H2_ := (Option.bind_some _ _).symm.trans H; rw [hy1347]; with_reducible exact H2_) | (have H2_ := (Option.bind_some _ _).symm.trans H; with_reducible exact H2_) | with_reducible exact H | (rw [hy1347]; exact H) | exact H
        have Ny1347 := Aside0.mk hy1347
        clear hy1347
        by_cases c7 : (y1341.length : Int) = 57
        · rw [if_pos c7] at H
          have c7b0 : ((y1341.length : Int) == 57) = true := beq_iff_eq.mpr c7
          have c7b1 : ((y1341.length : Int) != 57) = false := bne_eq_false_iff_eq.mpr c7
          clear c7
          by_cases c8 : 56 < (y1341.length : Int)
          · rw [if_pos c8] at H
            have c8b0 : decide (56 < (y1341.length : Int)) = true := decide_eq_true c8
            have c8b1 : decide (56 < y1341.length) = true := decide_eq_true (by omega)
            clear c8
            obtain ⟨y1348, hy1348⟩ : ∃ y_ : List Int, y_ = (y1347.set (56 : Int).toNat 0) := ⟨_, rfl⟩
            replace H : (some y1348) = some r := by first | (rw [hy1348]; with_reducible exact H) | (have H2_ := (Option.bind_some _ _).symm.trans H; rw [hy1348]; with_reducible exact H2_) | (have H2_ := (Option.bind_some _ _).symm.trans H; with_reducible exact H2_) | with_reducible exact H | (rw [hy1348]; exact H) | exact H
            have Ny1348 := Aside0.mk hy1348
            clear hy1348
            obtain rfl := Option.some.inj H
            go_enter Try.func79, Try.ntmps79
            go_wp2_with (first | ((with_reducible refine gate_builtin (b := .append) (xs := #[.tmp 4, .tmp 5]) rfl ?_); at_builtin; refine Kd.R_append_rows (Kd.int .u8) (w0 := w) w.heap.size rfl (.tmp 4) (.tmp 5) 22 5 (.int .u8 0) 1 rfl Try.underlying22 info5 rfl (by decide) (by omega) (.slice none 0 0) ([] : List Int) l0 _ _ _ (fun _ => True) (fun _ => False) rfl rfl ?aO ?aR (fun _ _ h => h) (fun _ h => h.elim) ?aF ?aB ?aS ?aL ?_; (case aR => repeat (first | exact HR0.out | (with_reducible refine Kd.C_alloc ?_ _) | (with_reducible refine Kd.C_drewN ?_ _) | (with_reducible refine Kd.C_drew ?_))); (case aB => exact (by repeat (first | (with_reducible first | exact HB.out | apply below_alloc | apply pw_below_drewN | apply below_drew1) | exact HB.out))); (case aF => exact (fun _ _ => trivial)); (case aO => exact ((Kd.R_nil _ _ _ _ (fun _ => True)))); (case aS => exact (below_size (by repeat (first | (with_reducible first | exact HB.out | apply below_alloc | apply pw_below_drewN | apply below_drew1) | exact HB.out)))); (case aL => have := LMc2.out; omega); intro v1342 w10 ho hb hg hat; rw [← Ny1341.out] at ho; have n0_ := Aside0.mk (hb); have n1_ := Aside0.mk (ho); clear HB; have HB := n0_; have HO1343 := n1_; clear n0_ n1_; clear ho hb hg hat; obtain ⟨Ao11, co11, eo11⟩ := Kd.R_slice HO1343.out; subst eo11; have p1344 : 0 ≤ (0 : Int) := (by omega); have q1344 : 0 < (y1341.length : Int) := of_decide_eq_true (by first | (with_reducible assumption) | assumption); obtain ⟨ad1344, e1344, hx1344_0⟩ := Kd.at_int (Kd.R_reads' HO1343.out).2.2 0 p1344 q1344; cases e1344; have qi1344 : (0 < y1341.length) = True := eq_true (by omega); (try rw [show ((0 : Int)).toNat = 0 from rfl] at hx1344_0); (try rw [Addr.add_zero'] at hx1344_0); replace p1344 := eq_true p1344; replace q1344 := eq_true q1344; have p4 : 0 ≤ (0 : Int) := (by omega); have q4 : (0 : Int) < ((y1341.length : Int) : Int) := of_decide_eq_true (by first | (with_reducible assumption) | assumption); have qi4 : (0 < y1341.length) = True := eq_true (by omega); obtain ⟨go4, co4, eo4, gb4, gl4, cl4, HG4⟩ := Kd.R_form HO1343.out (by omega); (first | cases eo4 | (injection eo4 with ea_ en_ ec_; (first | subst ea_ | (injection ea_ with ea_; subst ea_)); subst ec_; clear en_)); have GB4 := Aside0.mk gb4; have GG4 := Aside0.mk HG4; clear gb4 gl4 HG4; (first | simp only [add_plain] at hx1344_0 | skip); obtain ⟨hx4_0, hf4_0⟩ := Kd.R_celln 0 HO1343.out (0 : Int) p4 q4; (try rw [show ((0 : Int)).toNat = 0 from rfl] at hx4_0); (try simp only [Nat.reduceMul, Nat.zero_mul, Nat.zero_add, Nat.reduceAdd] at hx4_0); (try rw [show ((0 : Int)).toNat = 0 from rfl] at hf4_0); (try simp only [Nat.reduceMul, Nat.zero_mul, Nat.zero_add, Nat.reduceAdd] at hf4_0); replace p4 := eq_true p4; replace q4 := eq_true q4; obtain ⟨hy12_, hz12_⟩ := Kd.R_celln 0 HO1343.out (0 : Int) (by omega) (of_decide_eq_true (by first | (with_reducible assumption) | assumption)); (try simp only [Int.reduceToNat, Int.toNat_zero, Int.toNat_ofNat, Nat.reduceMul, Nat.zero_mul, Nat.zero_add] at hy12_ hz12_); (try rw [show ((0 : Int)).toNat = 0 from rfl] at hy12_); (try rw [show ((0 : Int)).toNat = 0 from rfl] at hz12_); have HP12 := Kd.R_putg HO1343.out (0 : Int) ((((Int.tdiv (rd y1341 0) 4) % 256) * 4) % 256)) | ((with_reducible refine gate_store (t := 5) (p := 13) rfl ?_); refine store_event (t := 5) (p := 13) (v := ?vo_w13) (w1 := (w10.setCell ⟨go4, (0 : Int).toNat, none⟩ (.int .u8 ((((Int.tdiv (rd y1341 0) 4) % 256) * 4) % 256)))) ?hg ?ho ?hn ?hr ?_; (case ho => rfl); (case hg => rfl); (case hn => rfl); (case hr => first | (go_simp; done) | (go_simp; rfl)); intro w13 hw; have hg : w10.grownBy w13 (some go4) := (by rw [hw]; exact HP12.2); have hp_ : Kd.R (Kd.int .u8) 5 w13 w.heap.size (fun _ => True) (.slice (some ⟨go4, 0, none⟩) y1341.length co11) y1345 := (by rw [hw, Ny1345.out]; exact HP12.1); clear HP12; have n0_ := Aside0.mk (hp_); have n1_ := Aside0.mk ((by rw [hw]; exact below_set (HB.out) GB4.out : Below w.heap.size w w13)); clear HO1343; clear HB; have HO1343 := n0_; have HB := n1_; clear n0_ n1_; clear hg hw hp_; have p1346 : 0 ≤ (55 : Int) := (by omega); have q1346 : 55 < (y1345.length : Int) := (by have h_ : (55 : Int) < ((y1341.length : Int) : Int) := of_decide_eq_true (by first | (with_reducible assumption) | assumption); first | (have e_ := (Kd.R_reads' HO1343.out).1; omega) | simpa only [Ny1345.out, List.length_set] using h_); have ql1346 : ((55 : Int) < ((y1341.length : Int) : Int)) = True := eq_true (of_decide_eq_true (by first | (with_reducible assumption) | assumption)); (try have qn1346 : (55 < y1341.length) = True := eq_true (by have h_ : (55 : Int) < ((y1341.length : Int) : Int) := of_decide_eq_true (by first | (with_reducible assumption) | assumption); omega)); obtain ⟨ad1346, e1346, hx1346_0⟩ := Kd.at_int (Kd.R_reads' HO1343.out).2.2 55 p1346 q1346; obtain rfl : (⟨go4, 0, none⟩ : Addr) = ad1346 := (by injection e1346); (first | simp only [add_plain] at hx1346_0 | simp only [add_at] at hx1346_0 | simp only [Addr.add, Nat.zero_add] at hx1346_0 | skip); have qi1346 : (55 < y1345.length) = True := eq_true (by omega); (try rw [show ((55 : Int)).toNat = 55 from rfl] at hx1346_0); replace p1346 := eq_true p1346; replace q1346 := eq_true q1346; have p6 : 0 ≤ (55 : Int) := (by omega); have q6 : (55 : Int) < ((y1341.length : Int) : Int) := of_decide_eq_true (by first | (with_reducible assumption) | assumption); have qi6 : (55 < y1341.length) = True := eq_true (by omega); obtain ⟨hx6_0, hf6_0⟩ := Kd.R_celln 0 HO1343.out (55 : Int) p6 q6; (try rw [show ((55 : Int)).toNat = 55 from rfl] at hx6_0); (try simp only [Nat.reduceMul, Nat.zero_mul, Nat.zero_add, Nat.reduceAdd] at hx6_0); (try rw [show ((55 : Int)).toNat = 55 from rfl] at hf6_0); (try simp only [Nat.reduceMul, Nat.zero_mul, Nat.zero_add, Nat.reduceAdd] at hf6_0); replace p6 := eq_true p6; replace q6 := eq_true q6; obtain ⟨hy14_, hz14_⟩ := Kd.R_celln 0 HO1343.out (55 : Int) (by omega) (of_decide_eq_true (by first | (with_reducible assumption) | assumption)); (try simp only [Int.reduceToNat, Int.toNat_zero, Int.toNat_ofNat, Nat.reduceMul, Nat.zero_mul, Nat.zero_add] at hy14_ hz14_); (try rw [show ((55 : Int)).toNat = 55 from rfl] at hy14_); (try rw [show ((55 : Int)).toNat = 55 from rfl] at hz14_); have HP14 := Kd.R_putg HO1343.out (55 : Int) (((Int.tmod (rd y1345 55) 128) + 128) % 256)) | ((with_reducible refine gate_store (t := 5) (p := 20) rfl ?_); refine store_event (t := 5) (p := 20) (v := ?vo_w15) (w1 := (w13.setCell ⟨go4, (55 : Int).toNat, none⟩ (.int .u8 (((Int.tmod (rd y1345 55) 128) + 128) % 256)))) ?hg ?ho ?hn ?hr ?_; (case ho => rfl); (case hg => rfl); (case hn => rfl); (case hr => first | (go_simp; done) | (go_simp; rfl)); intro w15 hw; have hg : w13.grownBy w15 (some go4) := (by rw [hw]; exact HP14.2); have hp_ : Kd.R (Kd.int .u8) 5 w15 w.heap.size (fun _ => True) (.slice (some ⟨go4, 0, none⟩) y1341.length co11) y1347 := (by rw [hw, Ny1347.out]; exact HP14.1); clear HP14; have n0_ := Aside0.mk (hp_); have n1_ := Aside0.mk ((by rw [hw]; exact below_set (HB.out) GB4.out : Below w.heap.size w w15)); clear HO1343; clear HB; have HO1343 := n0_; have HB := n1_; clear n0_ n1_; clear hg hw hp_; have p9 : 0 ≤ (56 : Int) := (by omega); have q9 : (56 : Int) < ((y1341.length : Int) : Int) := of_decide_eq_true (by first | (with_reducible assumption) | assumption); have qi9 : (56 < y1341.length) = True := eq_true (by omega); obtain ⟨hx9_0, hf9_0⟩ := Kd.R_celln 0 HO1343.out (56 : Int) p9 q9; (try rw [show ((56 : Int)).toNat = 56 from rfl] at hx9_0); (try simp only [Nat.reduceMul, Nat.zero_mul, Nat.zero_add, Nat.reduceAdd] at hx9_0); (try rw [show ((56 : Int)).toNat = 56 from rfl] at hf9_0); (try simp only [Nat.reduceMul, Nat.zero_mul, Nat.zero_add, Nat.reduceAdd] at hf9_0); replace p9 := eq_true p9; replace q9 := eq_true q9; obtain ⟨hy16_, hz16_⟩ := Kd.R_celln 0 HO1343.out (56 : Int) (by omega) (of_decide_eq_true (by first | (with_reducible assumption) | assumption)); (try simp only [Int.reduceToNat, Int.toNat_zero, Int.toNat_ofNat, Nat.reduceMul, Nat.zero_mul, Nat.zero_add] at hy16_ hz16_); (try rw [show ((56 : Int)).toNat = 56 from rfl] at hy16_); (try rw [show ((56 : Int)).toNat = 56 from rfl] at hz16_); have HP16 := Kd.R_putg HO1343.out (56 : Int) 0) | ((with_reducible refine gate_store (t := 5) (p := 25) rfl ?_); refine store_event (t := 5) (p := 25) (v := ?vo_w17) (w1 := (w15.setCell ⟨go4, (56 : Int).toNat, none⟩ (.int .u8 0))) ?hg ?ho ?hn ?hr ?_; (case ho => rfl); (case hg => rfl); (case hn => rfl); (case hr => first | (go_simp; done) | (go_simp; rfl)); intro w17 hw; have hg : w15.grownBy w17 (some go4) := (by rw [hw]; exact HP16.2); have hp_ : Kd.R (Kd.int .u8) 5 w17 w.heap.size (fun _ => True) (.slice (some ⟨go4, 0, none⟩) y1341.length co11) y1348 := (by rw [hw, Ny1348.out]; exact HP16.1); clear HP16; have n0_ := Aside0.mk (hp_); have n1_ := Aside0.mk ((by rw [hw]; exact below_set (HB.out) GB4.out : Below w.heap.size w w17)); clear HO1343; clear HB; have HO1343 := n0_; have HB := n1_; clear n0_ n1_; clear hg hw hp_))
            go_ret
            exact ⟨_, by first | rfl | (simp [errW_none, errW_some] <;> rfl) | (simp [*, errW_none, errW_some] <;> rfl), by (with_reducible repeat (first | apply Kd.R_alloc | apply Kd.R_drewN | apply Kd.R_drew)); exact HO1343.out, by repeat (first | (with_reducible first | exact HB.out | apply below_alloc | apply pw_below_drewN | apply below_drew1) | exact HB.out)⟩
          · rw [if_neg c8] at H
            exact absurd H (by simp)
        · rw [if_neg c7] at H
          have c7b0 : ((y1341.length : Int) == 57) = false := beq_eq_false_iff_ne.mpr c7
          have c7b1 : ((y1341.length : Int) != 57) = true := bne_iff_ne.mpr c7
          obtain rfl := Option.some.inj H
          go_enter Try.func79, Try.ntmps79
          go_wp2_with (first | ((with_reducible refine gate_builtin (b := .append) (xs := #[.tmp 4, .tmp 5]) rfl ?_); at_builtin; refine Kd.R_append_rows (Kd.int .u8) (w0 := w) w.heap.size rfl (.tmp 4) (.tmp 5) 22 5 (.int .u8 0) 1 rfl Try.underlying22 info5 rfl (by decide) (by omega) (.slice none 0 0) ([] : List Int) l0 _ _ _ (fun _ => True) (fun _ => False) rfl rfl ?aO ?aR (fun _ _ h => h) (fun _ h => h.elim) ?aF ?aB ?aS ?aL ?_; (case aR => repeat (first | exact HR0.out | (with_reducible refine Kd.C_alloc ?_ _) | (with_reducible refine Kd.C_drewN ?_ _) | (with_reducible refine Kd.C_drew ?_))); (case aB => exact (by repeat (first | (with_reducible first | exact HB.out | apply below_alloc | apply pw_below_drewN | apply below_drew1) | exact HB.out))); (case aF => exact (fun _ _ => trivial)); (case aO => exact ((Kd.R_nil _ _ _ _ (fun _ => True)))); (case aS => exact (below_size (by repeat (first | (with_reducible first | exact HB.out | apply below_alloc | apply pw_below_drewN | apply below_drew1) | exact HB.out)))); (case aL => have := LMc2.out; omega); intro v1342 w18 ho hb hg hat; rw [← Ny1341.out] at ho; have n0_ := Aside0.mk (hb); have n1_ := Aside0.mk (ho); clear HB; have HB := n0_; have HO1343 := n1_; clear n0_ n1_; clear ho hb hg hat; obtain ⟨Ao19, co19, eo19⟩ := Kd.R_slice HO1343.out; subst eo19; have p1344 : 0 ≤ (0 : Int) := (by omega); have q1344 : 0 < (y1341.length : Int) := of_decide_eq_true (by first | (with_reducible assumption) | assumption); obtain ⟨ad1344, e1344, hx1344_0⟩ := Kd.at_int (Kd.R_reads' HO1343.out).2.2 0 p1344 q1344; cases e1344; have qi1344 : (0 < y1341.length) = True := eq_true (by omega); (try rw [show ((0 : Int)).toNat = 0 from rfl] at hx1344_0); (try rw [Addr.add_zero'] at hx1344_0); replace p1344 := eq_true p1344; replace q1344 := eq_true q1344; have p4 : 0 ≤ (0 : Int) := (by omega); have q4 : (0 : Int) < ((y1341.length : Int) : Int) := of_decide_eq_true (by first | (with_reducible assumption) | assumption); have qi4 : (0 < y1341.length) = True := eq_true (by omega); obtain ⟨go4, co4, eo4, gb4, gl4, cl4, HG4⟩ := Kd.R_form HO1343.out (by omega); (first | cases eo4 | (injection eo4 with ea_ en_ ec_; (first | subst ea_ | (injection ea_ with ea_; subst ea_)); subst ec_; clear en_)); have GB4 := Aside0.mk gb4; have GG4 := Aside0.mk HG4; clear gb4 gl4 HG4; (first | simp only [add_plain] at hx1344_0 | skip); obtain ⟨hx4_0, hf4_0⟩ := Kd.R_celln 0 HO1343.out (0 : Int) p4 q4; (try rw [show ((0 : Int)).toNat = 0 from rfl] at hx4_0); (try simp only [Nat.reduceMul, Nat.zero_mul, Nat.zero_add, Nat.reduceAdd] at hx4_0); (try rw [show ((0 : Int)).toNat = 0 from rfl] at hf4_0); (try simp only [Nat.reduceMul, Nat.zero_mul, Nat.zero_add, Nat.reduceAdd] at hf4_0); replace p4 := eq_true p4; replace q4 := eq_true q4; obtain ⟨hy20_, hz20_⟩ := Kd.R_celln 0 HO1343.out (0 : Int) (by omega) (of_decide_eq_true (by first | (with_reducible assumption) | assumption)); (try simp only [Int.reduceToNat, Int.toNat_zero, Int.toNat_ofNat, Nat.reduceMul, Nat.zero_mul, Nat.zero_add] at hy20_ hz20_); (try rw [show ((0 : Int)).toNat = 0 from rfl] at hy20_); (try rw [show ((0 : Int)).toNat = 0 from rfl] at hz20_); have HP20 := Kd.R_putg HO1343.out (0 : Int) ((((Int.tdiv (rd y1341 0) 4) % 256) * 4) % 256)) | ((with_reducible refine gate_store (t := 5) (p := 13) rfl ?_); refine store_event (t := 5) (p := 13) (v := ?vo_w21) (w1 := (w18.setCell ⟨go4, (0 : Int).toNat, none⟩ (.int .u8 ((((Int.tdiv (rd y1341 0) 4) % 256) * 4) % 256)))) ?hg ?ho ?hn ?hr ?_; (case ho => rfl); (case hg => rfl); (case hn => rfl); (case hr => first | (go_simp; done) | (go_simp; rfl)); intro w21 hw; have hg : w18.grownBy w21 (some go4) := (by rw [hw]; exact HP20.2); have hp_ : Kd.R (Kd.int .u8) 5 w21 w.heap.size (fun _ => True) (.slice (some ⟨go4, 0, none⟩) y1341.length co19) y1345 := (by rw [hw, Ny1345.out]; exact HP20.1); clear HP20; have n0_ := Aside0.mk (hp_); have n1_ := Aside0.mk ((by rw [hw]; exact below_set (HB.out) GB4.out : Below w.heap.size w w21)); clear HO1343; clear HB; have HO1343 := n0_; have HB := n1_; clear n0_ n1_; clear hg hw hp_; have p1346 : 0 ≤ (55 : Int) := (by omega); have q1346 : 55 < (y1345.length : Int) := (by have h_ : (55 : Int) < ((y1341.length : Int) : Int) := of_decide_eq_true (by first | (with_reducible assumption) | assumption); first | (have e_ := (Kd.R_reads' HO1343.out).1; omega) | simpa only [Ny1345.out, List.length_set] using h_); have ql1346 : ((55 : Int) < ((y1341.length : Int) : Int)) = True := eq_true (of_decide_eq_true (by first | (with_reducible assumption) | assumption)); (try have qn1346 : (55 < y1341.length) = True := eq_true (by have h_ : (55 : Int) < ((y1341.length : Int) : Int) := of_decide_eq_true (by first | (with_reducible assumption) | assumption); omega)); obtain ⟨ad1346, e1346, hx1346_0⟩ := Kd.at_int (Kd.R_reads' HO1343.out).2.2 55 p1346 q1346; obtain rfl : (⟨go4, 0, none⟩ : Addr) = ad1346 := (by injection e1346); (first | simp only [add_plain] at hx1346_0 | simp only [add_at] at hx1346_0 | simp only [Addr.add, Nat.zero_add] at hx1346_0 | skip); have qi1346 : (55 < y1345.length) = True := eq_true (by omega); (try rw [show ((55 : Int)).toNat = 55 from rfl] at hx1346_0); replace p1346 := eq_true p1346; replace q1346 := eq_true q1346; have p6 : 0 ≤ (55 : Int) := (by omega); have q6 : (55 : Int) < ((y1341.length : Int) : Int) := of_decide_eq_true (by first | (with_reducible assumption) | assumption); have qi6 : (55 < y1341.length) = True := eq_true (by omega); obtain ⟨hx6_0, hf6_0⟩ := Kd.R_celln 0 HO1343.out (55 : Int) p6 q6; (try rw [show ((55 : Int)).toNat = 55 from rfl] at hx6_0); (try simp only [Nat.reduceMul, Nat.zero_mul, Nat.zero_add, Nat.reduceAdd] at hx6_0); (try rw [show ((55 : Int)).toNat = 55 from rfl] at hf6_0); (try simp only [Nat.reduceMul, Nat.zero_mul, Nat.zero_add, Nat.reduceAdd] at hf6_0); replace p6 := eq_true p6; replace q6 := eq_true q6; obtain ⟨hy22_, hz22_⟩ := Kd.R_celln 0 HO1343.out (55 : Int) (by omega) (of_decide_eq_true (by first | (with_reducible assumption) | assumption)); (try simp only [Int.reduceToNat, Int.toNat_zero, Int.toNat_ofNat, Nat.reduceMul, Nat.zero_mul, Nat.zero_add] at hy22_ hz22_); (try rw [show ((55 : Int)).toNat = 55 from rfl] at hy22_); (try rw [show ((55 : Int)).toNat = 55 from rfl] at hz22_); have HP22 := Kd.R_putg HO1343.out (55 : Int) (((Int.tmod (rd y1345 55) 128) + 128) % 256)) | ((with_reducible refine gate_store (t := 5) (p := 20) rfl ?_); refine store_event (t := 5) (p := 20) (v := ?vo_w23) (w1 := (w21.setCell ⟨go4, (55 : Int).toNat, none⟩ (.int .u8 (((Int.tmod (rd y1345 55) 128) + 128) % 256)))) ?hg ?ho ?hn ?hr ?_; (case ho => rfl); (case hg => rfl); (case hn => rfl); (case hr => first | (go_simp; done) | (go_simp; rfl)); intro w23 hw; have hg : w21.grownBy w23 (some go4) := (by rw [hw]; exact HP22.2); have hp_ : Kd.R (Kd.int .u8) 5 w23 w.heap.size (fun _ => True) (.slice (some ⟨go4, 0, none⟩) y1341.length co19) y1347 := (by rw [hw, Ny1347.out]; exact HP22.1); clear HP22; have n0_ := Aside0.mk (hp_); have n1_ := Aside0.mk ((by rw [hw]; exact below_set (HB.out) GB4.out : Below w.heap.size w w23)); clear HO1343; clear HB; have HO1343 := n0_; have HB := n1_; clear n0_ n1_; clear hg hw hp_))
          go_ret
          exact ⟨_, by first | rfl | (simp [errW_none, errW_some] <;> rfl) | (simp [*, errW_none, errW_some] <;> rfl), by (with_reducible repeat (first | apply Kd.R_alloc | apply Kd.R_drewN | apply Kd.R_drew)); exact HO1343.out, by repeat (first | (with_reducible first | exact HB.out | apply below_alloc | apply pw_below_drewN | apply below_drew1) | exact HB.out)⟩
      · rw [if_neg c5] at H
        exact absurd H (by simp)
    · rw [if_neg c3] at H
      exact absurd H (by simp)
  · rw [if_neg c2] at H
    exact absurd H (by simp)
end Go.Proofs.Ytdaehflffecllaa.N
namespace Go.Proofs.Ytdaehflffecllaa.N
open Go.RowKit Go.Proofs.YtdaehflffecllaaW.PrintWords Go.Proofs.YtdaehflffecllaaW.PrintLast Go.Proofs.YtdaehflffecllaaW.PrintMore
attribute [local go_sem] max2_int min2_int max_two min_two max_three min_three max_four min_four   -- for this text's walks alone
set_option linter.unusedVariables false
set_option linter.unusedSimpArgs false
def chicorylaw06_ScalarClamps.j0 : Nat → List Int → List Int → Int → Bool → Option (Bool)
  | 0, _, _, _, _ => none
  | k + 1, x0, x3, x4, x21 => if x21 = true then (if (x3.length : Int) = 0 then (if x4 = 11 then ((chicorylaw06_awake.f k).bind fun t1354 => (some t1354)) else (some false)) else (some false)) else (if x4 = 0 then ((chicoryref06_Clamp.f x0).bind fun t1355 => ((chicorylaw01_Bytes.f k x3 t1355).bind fun t1358 => (if t1358 = true then ((chicoryref03_Len.f k x3).bind fun t1359 => (if t1359 = 448 then ((chicoryref03_Bit.f k x3 0).bind fun t1360 => ((chicoryref03_Bit.f k x3 1).bind fun t1361 => (if (wrap64 (t1360 + t1361)) = 0 then ((chicorylaw06_awake.f k).bind fun t1362 => (some t1362)) else (some false)))) else (some false))) else (some false)))) else (some false))
def chicorylaw06_ScalarClamps.f (k : Nat) (l0 : List Int) : Option (Bool) := if (l0.length : Int) > 100 then ((chicorylaw06_awake.f k).bind fun t1349 => (some t1349)) else ((scalar_Clamp.f l0).bind fun bt1350 => (if (l0.length : Int) = 56 then (chicorylaw06_ScalarClamps.j0 k l0 bt1350.1 bt1350.2 false) else (chicorylaw06_ScalarClamps.j0 k l0 bt1350.1 bt1350.2 ((l0.length : Int) != 57))))
set_option maxHeartbeats 8000000 in
set_option maxRecDepth 100000 in
theorem chicorylaw06_ScalarClamps.calls (k : Nat) (A0 : Option Addr) (c0 : Nat) (l0 : List Int) (w : World) (hr0 : Kd.C (Kd.int .u8) w A0 l0.length l0) (hc0 : l0.length ≤ c0) (h : chicorylaw06_ScalarClamps.f k l0 = some true) :
    Calls Try.prog 19 #[.slice A0 l0.length c0] w fun e w' => e = .returned (.bool true) ∧ Below w.heap.size w w' := by
  have HR0 := Aside0.mk hr0
  have HC0 := Aside0.mk hc0
  clear hr0 hc0
  have HB := Aside0.mk (Below.refl w.heap.size w)
  have H : (if (l0.length : Int) > 100 then ((chicorylaw06_awake.f k).bind fun t1349 => (some t1349)) else ((scalar_Clamp.f l0).bind fun bt1350 => (if (l0.length : Int) = 56 then (chicorylaw06_ScalarClamps.j0 k l0 bt1350.1 bt1350.2 false) else (chicorylaw06_ScalarClamps.j0 k l0 bt1350.1 bt1350.2 ((l0.length : Int) != 57))))) = some true := h
  clear h
  by_cases c2 : (l0.length : Int) > 100
  · rw [if_pos c2] at H
    have c2b0 : decide (100 < (l0.length : Int)) = true := decide_eq_true c2
    have c2b1 : decide (100 < l0.length) = true := decide_eq_true (by omega)
    clear c2
    replace H := Option.bind_eq_some_iff.mp H
    obtain ⟨t1349, A30, H⟩ := H
    replace H : (some t1349) = some true := H
    have A3 := Aside0.mk A30
    clear A30
    obtain rfl := Option.some.inj H
    go_enter Try.func19, Try.ntmps19
    go_wp2_with (first | ((with_reducible refine gate_callee (f := 71) rfl ?_); refine goesL_ (some 8) rfl rfl Try.func71 (by kernel_rfl) rfl #[] rfl (by (try simp only [List.map_toArray, List.map_cons, List.map_nil]); first | done | rfl | (simp only [List.length_drop, List.length_take]; rfl)) ?_; (with_reducible refine (chicorylaw06_awake.calls k  true _ A3.out).mono ?_); rintro e w4 ⟨rfl, hb⟩; refine ⟨_, rfl, ?_⟩; have n0_ := Aside0.mk (below_step (by repeat (first | (with_reducible first | exact HB.out | apply below_alloc | apply pw_below_drewN | apply below_drew1) | exact HB.out)) hb); clear HB; have HB := n0_; clear n0_; (try clear hb); (try clear hb2); (try clear hk); (try clear hi)))
    go_ret
    exact ⟨by first | rfl | (simp [errW_none, errW_some] <;> rfl) | (simp [*, errW_none, errW_some] <;> rfl), by repeat (first | (with_reducible first | exact HB.out | apply below_alloc | apply pw_below_drewN | apply below_drew1) | exact HB.out)⟩
  · rw [if_neg c2] at H
    have c2b0 : decide (100 < (l0.length : Int)) = false := decide_eq_false c2
    have c2b1 : decide (100 < l0.length) = false := decide_eq_false (by omega)
    clear c2
    replace H := Option.bind_eq_some_iff.mp H
    obtain ⟨⟨t1350, t1351⟩, A50, H⟩ := H
    replace H : (if (l0.length : Int) = 56 then (chicorylaw06_ScalarClamps.j0 k l0 t1350 t1351 false) else (chicorylaw06_ScalarClamps.j0 k l0 t1350 t1351 ((l0.length : Int) != 57))) = some true := H
    have A5 := Aside0.mk A50
    clear A50
    have HC6 := Aside0.mk H
    clear H
    go_enter Try.func19, Try.ntmps19
    go_upto_region 4 with (first | ((with_reducible refine gate_callee (f := 78) rfl ?_); refine goesL_ (some 11) rfl rfl Try.func78 (by kernel_rfl) rfl #[.slice A0 l0.length c0] rfl (by (try simp only [List.map_toArray, List.map_cons, List.map_nil]); first | done | rfl | (simp only [List.length_drop, List.length_take]; rfl)) ?_; (with_reducible refine (scalar_Clamp.calls _ _ l0 t1350 t1351 _ ?side1 ?side2 A5.out).mono ?_); (case side1 => repeat (first | exact HR0.out | (with_reducible refine Kd.C_alloc ?_ _) | (with_reducible refine Kd.C_drewN ?_ _) | (with_reducible refine Kd.C_drew ?_))); (case side2 => exact HC0.out); rintro e w7 ⟨v1352, rfl, ho0, hb⟩; refine ⟨_, rfl, ?_⟩; have n0_ := Aside0.mk (Kd.R_lower ho0 (below_size (by repeat (first | (with_reducible first | exact HB.out | apply below_alloc | apply pw_below_drewN | apply below_drew1) | exact HB.out)))); have n1_ := Aside0.mk (below_step (by repeat (first | (with_reducible first | exact HB.out | apply below_alloc | apply pw_below_drewN | apply below_drew1) | exact HB.out)) hb); clear HB; have HO1353 := n0_; have HB := n1_; clear n0_ n1_; (try clear hb); (try clear hb2); (try clear hk); (try clear hi); (try clear ho0)))
    (try simp only [Act.put, List.setIfInBounds_toArray, List.set_cons_zero, List.set_cons_succ])
    go_cut [21] (fun v21 wc => ∃ (kq : Nat) (x21_5 : Bool), v21 = .bool x21_5 ∧ Aside0 (chicorylaw06_ScalarClamps.j0 kq l0 t1350 t1351 x21_5 = some true) ∧ Aside0 (kq ≤ k) ∧ Aside0 (Kd.R (Kd.int .u8) 5 wc w.heap.size (fun _ => True) v1352 t1350) ∧ Aside0 (Below w.heap.size w wc))
    case first =>
      have H := HC6.out
      clear HC6
      by_cases c8 : (l0.length : Int) = 56
      · rw [if_pos c8] at H
        have c8b0 : ((l0.length : Int) == 56) = true := beq_iff_eq.mpr c8
        have c8b1 : ((l0.length : Int) != 56) = false := bne_eq_false_iff_eq.mpr c8
        clear c8
        (first | rw [c8b0] | (simp only [i64_w, i32_w]; rw [c8b0]) | skip)
        have H' := Aside0.mk H
        clear H
        go_wp2
        go_meet
        case rel => exact ⟨_, (false), (by first | rfl | (simp; done) | (simp [*]; done)), H', ⟨by first | omega | exact Nat.le_refl _⟩, ⟨by (with_reducible repeat (first | apply Kd.R_alloc | apply Kd.R_drewN | apply Kd.R_drew)); exact HO1353.out⟩, ⟨by repeat (first | (with_reducible first | exact HB.out | apply below_alloc | apply pw_below_drewN | apply below_drew1) | exact HB.out)⟩⟩
      · rw [if_neg c8] at H
        have c8b0 : ((l0.length : Int) == 56) = false := beq_eq_false_iff_ne.mpr c8
        have c8b1 : ((l0.length : Int) != 56) = true := bne_iff_ne.mpr c8
        (first | rw [c8b0] | (simp only [i64_w, i32_w]; rw [c8b0]) | skip)
        have H' := Aside0.mk H
        clear H
        go_wp2
        go_meet
        case rel => exact ⟨_, (((l0.length : Int) != 57)), (by first | rfl | (simp; done) | (simp [*]; done)), H', ⟨by first | omega | exact Nat.le_refl _⟩, ⟨by (with_reducible repeat (first | apply Kd.R_alloc | apply Kd.R_drewN | apply Kd.R_drew)); exact HO1353.out⟩, ⟨by repeat (first | (with_reducible first | exact HB.out | apply below_alloc | apply pw_below_drewN | apply below_drew1) | exact HB.out)⟩⟩
    case rest =>
      clear HC6
      try clear c1
      try clear c2
      try clear c2b0
      try clear c2b1
      try clear p2
      try clear c7
      try clear c8
      try clear c8b0
      try clear c8b1
      obtain ⟨kq, x21_5, rfl, HA, HJ5, HO_3, HB⟩ := hcut
      cases kq with
      | zero => exact absurd HA.out (by simp [chicorylaw06_ScalarClamps.j0])
      | succ kj5 =>
        have H := HA.out
        clear HA
        simp only [chicorylaw06_ScalarClamps.j0] at H
        by_cases c9 : x21_5 = true
        · subst c9
          have H1 : (if (t1350.length : Int) = 0 then (if t1351 = 11 then ((chicorylaw06_awake.f kj5).bind fun t1354 => (some t1354)) else (some false)) else (some false)) = some true := by rw [if_pos rfl] at H; exact H
          clear H
          have H := H1
          clear H1
          by_cases c10 : (t1350.length : Int) = 0
          · rw [if_pos c10] at H
            have c10b0 : ((t1350.length : Int) == 0) = true := beq_iff_eq.mpr c10
            have c10b1 : ((t1350.length : Int) != 0) = false := bne_eq_false_iff_eq.mpr c10
            clear c10
            by_cases c11 : t1351 = 11
            · rw [if_pos c11] at H
              have c11b0 : (t1351 == 11) = true := beq_iff_eq.mpr c11
              have c11b1 : (t1351 != 11) = false := bne_eq_false_iff_eq.mpr c11
              clear c11
              replace H := Option.bind_eq_some_iff.mp H
              obtain ⟨t1354, A120, H⟩ := H
              replace H : (some t1354) = some true := H
              have A12 := Aside0.mk A120
              clear A120
              obtain rfl := Option.some.inj H
              obtain ⟨Ao13, co13, eo13⟩ := Kd.R_slice HO_3.out
              subst eo13
              go_wp2_with (first | (go_at_call 71; (with_reducible refine (chicorylaw06_awake.calls kj5  true _ A12.out).mono ?_); rintro e w14 ⟨rfl, hb⟩; have n0_ := Aside0.mk (Kd.R_below (by (with_reducible repeat (first | apply Kd.R_alloc | apply Kd.R_drewN | apply Kd.R_drew)); exact HO_3.out) hb); have n1_ := Aside0.mk (below_step (by repeat (first | (with_reducible first | exact HB.out | apply below_alloc | apply pw_below_drewN | apply below_drew1) | exact HB.out)) hb); clear HO_3; clear HB; have HO_3 := n0_; have HB := n1_; clear n0_ n1_; (try clear hb); (try clear hb2); (try clear hk); (try clear hi)))
              go_ret
              exact ⟨by first | rfl | (simp [errW_none, errW_some] <;> rfl) | (simp [*, errW_none, errW_some] <;> rfl), by repeat (first | (with_reducible first | exact HB.out | apply below_alloc | apply pw_below_drewN | apply below_drew1) | exact HB.out)⟩
            · rw [if_neg c11] at H
              have c11b0 : (t1351 == 11) = false := beq_eq_false_iff_ne.mpr c11
              have c11b1 : (t1351 != 11) = true := bne_iff_ne.mpr c11
              exact absurd H (by simp)
          · rw [if_neg c10] at H
            have c10b0 : ((t1350.length : Int) == 0) = false := beq_eq_false_iff_ne.mpr c10
            have c10b1 : ((t1350.length : Int) != 0) = true := bne_iff_ne.mpr c10
            have c10b2 : ¬ (t1350 = []) := fun h_ => c10 (by rw [h_]; rfl)
            exact absurd H (by simp)
        · replace c9 := Bool.eq_false_iff.mpr c9
          subst c9
          have H1 : (if t1351 = 0 then ((chicoryref06_Clamp.f l0).bind fun t1355 => ((chicorylaw01_Bytes.f kj5 t1350 t1355).bind fun t1358 => (if t1358 = true then ((chicoryref03_Len.f kj5 t1350).bind fun t1359 => (if t1359 = 448 then ((chicoryref03_Bit.f kj5 t1350 0).bind fun t1360 => ((chicoryref03_Bit.f kj5 t1350 1).bind fun t1361 => (if (wrap64 (t1360 + t1361)) = 0 then ((chicorylaw06_awake.f kj5).bind fun t1362 => (some t1362)) else (some false)))) else (some false))) else (some false)))) else (some false)) = some true := by rw [if_neg (show ¬ (false = true) by decide)] at H; exact H
          clear H
          have H := H1
          clear H1
          by_cases c17 : t1351 = 0
          · rw [if_pos c17] at H
            have c17b0 : (t1351 == 0) = true := beq_iff_eq.mpr c17
            have c17b1 : (t1351 != 0) = false := bne_eq_false_iff_eq.mpr c17
            clear c17
            replace H := Option.bind_eq_some_iff.mp H
            obtain ⟨t1355, A180, H⟩ := H
            replace H : ((chicorylaw01_Bytes.f kj5 t1350 t1355).bind fun t1358 => (if t1358 = true then ((chicoryref03_Len.f kj5 t1350).bind fun t1359 => (if t1359 = 448 then ((chicoryref03_Bit.f kj5 t1350 0).bind fun t1360 => ((chicoryref03_Bit.f kj5 t1350 1).bind fun t1361 => (if (wrap64 (t1360 + t1361)) = 0 then ((chicorylaw06_awake.f kj5).bind fun t1362 => (some t1362)) else (some false)))) else (some false))) else (some false))) = some true := H
            have A18 := Aside0.mk A180
            clear A180
            replace H := Option.bind_eq_some_iff.mp H
            obtain ⟨t1358, A190, H⟩ := H
            replace H : (if t1358 = true then ((chicoryref03_Len.f kj5 t1350).bind fun t1359 => (if t1359 = 448 then ((chicoryref03_Bit.f kj5 t1350 0).bind fun t1360 => ((chicoryref03_Bit.f kj5 t1350 1).bind fun t1361 => (if (wrap64 (t1360 + t1361)) = 0 then ((chicorylaw06_awake.f kj5).bind fun t1362 => (some t1362)) else (some false)))) else (some false))) else (some false)) = some true := H
            have A19 := Aside0.mk A190
            clear A190
            by_cases c20 : t1358 = true
            · subst c20
              have H1 : ((chicoryref03_Len.f kj5 t1350).bind fun t1359 => (if t1359 = 448 then ((chicoryref03_Bit.f kj5 t1350 0).bind fun t1360 => ((chicoryref03_Bit.f kj5 t1350 1).bind fun t1361 => (if (wrap64 (t1360 + t1361)) = 0 then ((chicorylaw06_awake.f kj5).bind fun t1362 => (some t1362)) else (some false)))) else (some false))) = some true := by rw [if_pos rfl] at H; exact H
              clear H
              have H := H1
              clear H1
              replace H := Option.bind_eq_some_iff.mp H
              obtain ⟨t1359, A210, H⟩ := H
              replace H : (if t1359 = 448 then ((chicoryref03_Bit.f kj5 t1350 0).bind fun t1360 => ((chicoryref03_Bit.f kj5 t1350 1).bind fun t1361 => (if (wrap64 (t1360 + t1361)) = 0 then ((chicorylaw06_awake.f kj5).bind fun t1362 => (some t1362)) else (some false)))) else (some false)) = some true := H
              have A21 := Aside0.mk A210
              clear A210
              by_cases c22 : t1359 = 448
              · rw [if_pos c22] at H
                have c22b0 : (t1359 == 448) = true := beq_iff_eq.mpr c22
                have c22b1 : (t1359 != 448) = false := bne_eq_false_iff_eq.mpr c22
                clear c22
                replace H := Option.bind_eq_some_iff.mp H
                obtain ⟨t1360, A230, H⟩ := H
                replace H : ((chicoryref03_Bit.f kj5 t1350 1).bind fun t1361 => (if (wrap64 (t1360 + t1361)) = 0 then ((chicorylaw06_awake.f kj5).bind fun t1362 => (some t1362)) else (some false))) = some true := H
                have A23 := Aside0.mk A230
                clear A230
                replace H := Option.bind_eq_some_iff.mp H
                obtain ⟨t1361, A240, H⟩ := H
                replace H : (if (wrap64 (t1360 + t1361)) = 0 then ((chicorylaw06_awake.f kj5).bind fun t1362 => (some t1362)) else (some false)) = some true := H
                have A24 := Aside0.mk A240
                clear A240
                by_cases c25 : (wrap64 (t1360 + t1361)) = 0
                · rw [if_pos c25] at H
                  have c25b0 : ((wrap64 (t1360 + t1361)) == 0) = true := beq_iff_eq.mpr c25
                  have c25b1 : ((wrap64 (t1360 + t1361)) != 0) = false := bne_eq_false_iff_eq.mpr c25
                  clear c25
                  replace H := Option.bind_eq_some_iff.mp H
                  obtain ⟨t1362, A260, H⟩ := H
                  replace H : (some t1362) = some true := H
                  have A26 := Aside0.mk A260
                  clear A260
                  obtain rfl := Option.some.inj H
                  go_wp2_with (first | (go_at_call 79; (with_reducible refine (chicoryref06_Clamp.calls _ _ l0 t1355 _ ?side1 ?side2 A18.out).mono ?_); (case side1 => repeat (first | exact (Kd.C_below HR0.out HB.out) | (with_reducible refine Kd.C_alloc ?_ _) | (with_reducible refine Kd.C_drewN ?_ _) | (with_reducible refine Kd.C_drew ?_))); (case side2 => exact HC0.out); rintro e w27 ⟨v1356, rfl, ho0, hb⟩; have n0_ := Aside0.mk (Kd.R_elder' (by (with_reducible repeat (first | apply Kd.R_alloc | apply Kd.R_drewN | apply Kd.R_drew)); exact HO_3.out) (Kd.R_base ho0) hb); have n1_ := Aside0.mk (Kd.R_lower (Kd.R_new' ho0 (Kd.R_lt (by (with_reducible repeat (first | apply Kd.R_alloc | apply Kd.R_drewN | apply Kd.R_drew)); exact HO_3.out))) (below_size (by repeat (first | (with_reducible first | exact HB.out | apply below_alloc | apply pw_below_drewN | apply below_drew1) | exact HB.out)))); have n2_ := Aside0.mk (below_step (by repeat (first | (with_reducible first | exact HB.out | apply below_alloc | apply pw_below_drewN | apply below_drew1) | exact HB.out)) hb); clear HO_3; clear HB; have HO_3 := n0_; have HO1357 := n1_; have HB := n2_; clear n0_ n1_ n2_; (try clear hb); (try clear hb2); (try clear hk); (try clear hi); (try clear ho0); obtain ⟨Ao28, co28, eo28⟩ := Kd.R_slice HO_3.out; subst eo28; obtain ⟨Ao29, co29, eo29⟩ := Kd.R_slice HO1357.out; subst eo29) | (go_at_call 60; (with_reducible refine (chicorylaw01_Bytes.calls kj5 _ _ t1350 _ _ t1355 true _ ?side1 ?side2 ?side3 ?side4 A19.out).mono ?_); (case side1 => repeat (first | exact (Kd.R_reads' HO_3.out).2.2 | (with_reducible refine Kd.C_alloc ?_ _) | (with_reducible refine Kd.C_drewN ?_ _) | (with_reducible refine Kd.C_drew ?_))); (case side2 => exact (Kd.R_reads' HO_3.out).2.1); (case side3 => repeat (first | exact (Kd.R_reads' HO1357.out).2.2 | (with_reducible refine Kd.C_alloc ?_ _) | (with_reducible refine Kd.C_drewN ?_ _) | (with_reducible refine Kd.C_drew ?_))); (case side4 => exact (Kd.R_reads' HO1357.out).2.1); rintro e w' ⟨rfl, ⟨nd, rfl⟩⟩) | (go_at_call 45; (with_reducible refine (chicoryref03_Len.calls kj5 _ _ t1350 t1359 _ ?side1 ?side2 A21.out).mono ?_); (case side1 => repeat (first | exact (Kd.R_reads' HO_3.out).2.2 | (with_reducible refine Kd.C_alloc ?_ _) | (with_reducible refine Kd.C_drewN ?_ _) | (with_reducible refine Kd.C_drew ?_))); (case side2 => exact (Kd.R_reads' HO_3.out).2.1); rintro e w' ⟨rfl, ⟨nd, rfl⟩⟩) | (go_at_call 46; (with_reducible refine (chicoryref03_Bit.calls kj5 _ _ t1350 0 t1360 _ ?side1 ?side2 A23.out).mono ?_); (case side1 => repeat (first | exact (Kd.R_reads' HO_3.out).2.2 | (with_reducible refine Kd.C_alloc ?_ _) | (with_reducible refine Kd.C_drewN ?_ _) | (with_reducible refine Kd.C_drew ?_))); (case side2 => exact (Kd.R_reads' HO_3.out).2.1); rintro e w' ⟨rfl, ⟨nd, rfl⟩⟩) | (go_at_call 46; (with_reducible refine (chicoryref03_Bit.calls kj5 _ _ t1350 1 t1361 _ ?side1 ?side2 A24.out).mono ?_); (case side1 => repeat (first | exact (Kd.R_reads' HO_3.out).2.2 | (with_reducible refine Kd.C_alloc ?_ _) | (with_reducible refine Kd.C_drewN ?_ _) | (with_reducible refine Kd.C_drew ?_))); (case side2 => exact (Kd.R_reads' HO_3.out).2.1); rintro e w' ⟨rfl, ⟨nd, rfl⟩⟩) | (go_at_call 71; (with_reducible refine (chicorylaw06_awake.calls kj5  true _ A26.out).mono ?_); rintro e w30 ⟨rfl, hb⟩; have n0_ := Aside0.mk (Kd.R_below (by (with_reducible repeat (first | apply Kd.R_alloc | apply Kd.R_drewN | apply Kd.R_drew)); exact HO_3.out) hb); have n1_ := Aside0.mk (Kd.R_below (by (with_reducible repeat (first | apply Kd.R_alloc | apply Kd.R_drewN | apply Kd.R_drew)); exact HO1357.out) hb); have n2_ := Aside0.mk (below_step (by repeat (first | (with_reducible first | exact HB.out | apply below_alloc | apply pw_below_drewN | apply below_drew1) | exact HB.out)) hb); clear HO_3; clear HO1357; clear HB; have HO_3 := n0_; have HO1357 := n1_; have HB := n2_; clear n0_ n1_ n2_; (try clear hb); (try clear hb2); (try clear hk); (try clear hi)))
                  go_ret
                  exact ⟨by first | rfl | (simp [errW_none, errW_some] <;> rfl) | (simp [*, errW_none, errW_some] <;> rfl), by repeat (first | (with_reducible first | exact HB.out | apply below_alloc | apply pw_below_drewN | apply below_drew1) | exact HB.out)⟩
                · rw [if_neg c25] at H
                  have c25b0 : ((wrap64 (t1360 + t1361)) == 0) = false := beq_eq_false_iff_ne.mpr c25
                  have c25b1 : ((wrap64 (t1360 + t1361)) != 0) = true := bne_iff_ne.mpr c25
                  exact absurd H (by simp)
              · rw [if_neg c22] at H
                have c22b0 : (t1359 == 448) = false := beq_eq_false_iff_ne.mpr c22
                have c22b1 : (t1359 != 448) = true := bne_iff_ne.mpr c22
                exact absurd H (by simp)
            · replace c20 := Bool.eq_false_iff.mpr c20
              subst c20
              have H1 : (some false) = some true := by rw [if_neg (show ¬ (false = true) by decide)] at H; exact H
              clear H
              have H := H1
              clear H1
              exact absurd H (by simp)
          · rw [if_neg c17] at H
            have c17b0 : (t1351 == 0) = false := beq_eq_false_iff_ne.mpr c17
            have c17b1 : (t1351 != 0) = true := bne_iff_ne.mpr c17
            exact absurd H (by simp)
/-- THE ONE PURE STATEMENT of chicorylaw06_ScalarClamps: yours. -/
def chicorylaw06_ScalarClamps.Pure : Prop := ∀ (l0 : List Int), l0.length ≤ maxLen → l0.length * 1 ≤ 140737488351232 → (∀ x ∈ l0, (Lit.int .u8 x).wf = true) → ∃ k, chicorylaw06_ScalarClamps.f k l0 = some true
theorem chicorylaw06_ScalarClamps.walk (P : chicorylaw06_ScalarClamps.Pure) (a0 : Option Addr) (len0 cap0 : Nat) (z0 : List Int) (w : World) (w0 : (a0 = none ∧ len0 = 0 ∧ cap0 = 0 ∧ z0 = []) ∨ ∃ x, a0 = some x ∧ len0 ≤ cap0 ∧ cap0 ≤ maxLen ∧ z0.length = cap0 ∧ (∀ i, i < z0.length → w.cell? (x.add i) = some (.int .u8 (z0.getD i 0))) ∧ ∀ n ∈ z0, (Lit.int .u8 n).wf = true) (y0 : len0 * 1 ≤ 140737488351232) :
    Calls Try.prog 19 #[.slice a0 len0 cap0] w fun e w' => e = .returned (.bool true) ∧ Below w.heap.size w w' := by
  obtain ⟨l0, rfl, hr0, hm0, hw0, hc0⟩ := ReadsInt.ofRowC w0
  obtain ⟨k, h⟩ := P l0 hm0 y0 hw0
  refine (chicorylaw06_ScalarClamps.calls k _ _ l0 w (Kd.C_of_reads (d := (0 : Int)) (h1 := fun _ => rfl) hr0) hc0 h).mono ?_
  rintro e w' ⟨rfl, hd⟩
  exact ⟨rfl, hd⟩
end Go.Proofs.Ytdaehflffecllaa.N
namespace Go.Proofs.Ytdaehflffecllaa.N
open Go.RowKit Go.Proofs.YtdaehflffecllaaW.PrintWords Go.Proofs.YtdaehflffecllaaW.PrintLast Go.Proofs.YtdaehflffecllaaW.PrintMore
attribute [local go_sem] max2_int min2_int max_two min_two max_three min_three max_four min_four   -- for this text's walks alone
set_option linter.unusedVariables false
set_option linter.unusedSimpArgs false
end Go.Proofs.Ytdaehflffecllaa.N
namespace Go.Proofs.Ytdaehflffecllaa.N
open Go.RowKit Go.Proofs.YtdaehflffecllaaW.PrintWords Go.Proofs.YtdaehflffecllaaW.PrintLast Go.Proofs.YtdaehflffecllaaW.PrintMore
attribute [local go_sem] max2_int min2_int max_two min_two max_three min_three max_four min_four   -- for this text's walks alone
set_option linter.unusedVariables false
set_option linter.unusedSimpArgs false
end Go.Proofs.Ytdaehflffecllaa.N
namespace Go.Proofs.Ytdaehflffecllaa.N
open Go.RowKit Go.Proofs.YtdaehflffecllaaW.PrintWords Go.Proofs.YtdaehflffecllaaW.PrintLast Go.Proofs.YtdaehflffecllaaW.PrintMore
attribute [local go_sem] max2_int min2_int max_two min_two max_three min_three max_four min_four   -- for this text's walks alone
set_option linter.unusedVariables false
set_option linter.unusedSimpArgs false
end Go.Proofs.Ytdaehflffecllaa.N
