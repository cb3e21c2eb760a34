/- The law ScalarBytes returns true whatever the input: N3 of its proof; no condition. (Joined by wip/shake.py.) -/
import Derived.Test.YtdaehflffecllaaMScalarBytesNx0
import Derived.Test.YtdaehflffecllaaMScalarBytesN2
import Derived.Test.YtdaehflffecllaaMScalarBytesN0
import Derived.Test.YtdaehflffecllaaMScalarBytesN1
namespace Go.Proofs.Ytdaehflffecllaa.N
open Go.RowKit Go.Proofs.YtdaehflffecllaaW.PrintWords Go.Proofs.YtdaehflffecllaaW.PrintLast Go.Proofs.YtdaehflffecllaaW.PrintMore
attribute [local go_sem] max2_int min2_int max_two min_two max_three min_three max_four min_four   -- for this text's walks alone
set_option linter.unusedVariables false
set_option linter.unusedSimpArgs false
def chicorylaw06_awake.f (k : Nat)  : Option (Bool) := (scalar_Int.f k (-1)).bind fun t1226 => ((scalar_Bytes.f k t1226).bind fun t1227 => ((scalar_Int.f k 1).bind fun t1230 => ((scalar_Half.f k t1230).bind fun t1231 => (if (t1227.length : Int) = 57 then (if 0 < (t1227.length : Int) then (if (rd t1227 0) = 242 then (if 1 < (t1227.length : Int) then (if (rd t1227 1) = 68 then (if 2 < (t1227.length : Int) then (if (rd t1227 2) = 88 then (if 3 < (t1227.length : Int) then (if (rd t1227 3) = 171 then ((scalar_Add.f k t1231 t1231).bind fun t1237 => ((scalar_Int.f k 1).bind fun t1238 => ((scalar_Equal.f k t1237 t1238).bind fun t1239 => (some t1239)))) else (some false)) else (none)) else (some false)) else (none)) else (some false)) else (none)) else (some false)) else (none)) else (some false)))))
theorem chicorylaw06_awake.mono : ∀ k, LeO (chicorylaw06_awake.f k ) (chicorylaw06_awake.f (k + 1) ) := by
  intro  k
  unfold chicorylaw06_awake.f
  repeat' first
      | (with_reducible exact scalar_Add.mono _ _ _)
      | (with_reducible exact scalar_Bytes.mono _ _)
      | (with_reducible exact scalar_Equal.mono _ _ _)
      | (with_reducible exact scalar_Half.mono _ _)
      | (with_reducible exact scalar_Int.mono _ _)
      | (with_reducible exact LeO.refl _)
      | (with_reducible exact LeO.none _)
      | (with_reducible refine LeO.ite ?_ ?_)
      | (with_reducible refine LeO.bind ?_ (fun _ => ?_))
      | exact scalar_Add.mono _ _ _
      | exact scalar_Bytes.mono _ _
      | exact scalar_Equal.mono _ _ _
      | exact scalar_Half.mono _ _
      | exact scalar_Int.mono _ _
      | exact LeO.none _
      | refine LeO.ite ?_ ?_
      | refine LeO.bind ?_ (fun _ => ?_)
set_option maxHeartbeats 8000000 in
set_option maxRecDepth 100000 in
theorem chicorylaw06_awake.calls (k : Nat)  (r : Bool) (w : World) (h : chicorylaw06_awake.f k  = some r) :
    Calls Try.prog 71 #[] w fun e w' => e = .returned (.bool r) ∧ Below w.heap.size w w' := by
  have hu73 := Try.underlying73
  have HB := Aside0.mk (Below.refl w.heap.size w)
  have H : ((scalar_Int.f k (-1)).bind fun t1226 => ((scalar_Bytes.f k t1226).bind fun t1227 => ((scalar_Int.f k 1).bind fun t1230 => ((scalar_Half.f k t1230).bind fun t1231 => (if (t1227.length : Int) = 57 then (if 0 < (t1227.length : Int) then (if (rd t1227 0) = 242 then (if 1 < (t1227.length : Int) then (if (rd t1227 1) = 68 then (if 2 < (t1227.length : Int) then (if (rd t1227 2) = 88 then (if 3 < (t1227.length : Int) then (if (rd t1227 3) = 171 then ((scalar_Add.f k t1231 t1231).bind fun t1237 => ((scalar_Int.f k 1).bind fun t1238 => ((scalar_Equal.f k t1237 t1238).bind fun t1239 => (some t1239)))) else (some false)) else (none)) else (some false)) else (none)) else (some false)) else (none)) else (some false)) else (none)) else (some false)))))) = some r := h
  clear h
  replace H := Option.bind_eq_some_iff.mp H
  obtain ⟨t1226, A10, H⟩ := H
  replace H : ((scalar_Bytes.f k t1226).bind fun t1227 => ((scalar_Int.f k 1).bind fun t1230 => ((scalar_Half.f k t1230).bind fun t1231 => (if (t1227.length : Int) = 57 then (if 0 < (t1227.length : Int) then (if (rd t1227 0) = 242 then (if 1 < (t1227.length : Int) then (if (rd t1227 1) = 68 then (if 2 < (t1227.length : Int) then (if (rd t1227 2) = 88 then (if 3 < (t1227.length : Int) then (if (rd t1227 3) = 171 then ((scalar_Add.f k t1231 t1231).bind fun t1237 => ((scalar_Int.f k 1).bind fun t1238 => ((scalar_Equal.f k t1237 t1238).bind fun t1239 => (some t1239)))) else (some false)) else (none)) else (some false)) else (none)) else (some false)) else (none)) else (some false)) else (none)) else (some false))))) = some r := H
  have A1 := Aside0.mk A10
  clear A10
  replace H := Option.bind_eq_some_iff.mp H
  obtain ⟨t1227, A20, H⟩ := H
  replace H : ((scalar_Int.f k 1).bind fun t1230 => ((scalar_Half.f k t1230).bind fun t1231 => (if (t1227.length : Int) = 57 then (if 0 < (t1227.length : Int) then (if (rd t1227 0) = 242 then (if 1 < (t1227.length : Int) then (if (rd t1227 1) = 68 then (if 2 < (t1227.length : Int) then (if (rd t1227 2) = 88 then (if 3 < (t1227.length : Int) then (if (rd t1227 3) = 171 then ((scalar_Add.f k t1231 t1231).bind fun t1237 => ((scalar_Int.f k 1).bind fun t1238 => ((scalar_Equal.f k t1237 t1238).bind fun t1239 => (some t1239)))) else (some false)) else (none)) else (some false)) else (none)) else (some false)) else (none)) else (some false)) else (none)) else (some false)))) = some r := H
  have A2 := Aside0.mk A20
  clear A20
  replace H := Option.bind_eq_some_iff.mp H
  obtain ⟨t1230, A30, H⟩ := H
  replace H : ((scalar_Half.f k t1230).bind fun t1231 => (if (t1227.length : Int) = 57 then (if 0 < (t1227.length : Int) then (if (rd t1227 0) = 242 then (if 1 < (t1227.length : Int) then (if (rd t1227 1) = 68 then (if 2 < (t1227.length : Int) then (if (rd t1227 2) = 88 then (if 3 < (t1227.length : Int) then (if (rd t1227 3) = 171 then ((scalar_Add.f k t1231 t1231).bind fun t1237 => ((scalar_Int.f k 1).bind fun t1238 => ((scalar_Equal.f k t1237 t1238).bind fun t1239 => (some t1239)))) else (some false)) else (none)) else (some false)) else (none)) else (some false)) else (none)) else (some false)) else (none)) else (some false))) = some r := H
  have A3 := Aside0.mk A30
  clear A30
  replace H := Option.bind_eq_some_iff.mp H
  obtain ⟨t1231, A40, H⟩ := H
  replace H : (if (t1227.length : Int) = 57 then (if 0 < (t1227.length : Int) then (if (rd t1227 0) = 242 then (if 1 < (t1227.length : Int) then (if (rd t1227 1) = 68 then (if 2 < (t1227.length : Int) then (if (rd t1227 2) = 88 then (if 3 < (t1227.length : Int) then (if (rd t1227 3) = 171 then ((scalar_Add.f k t1231 t1231).bind fun t1237 => ((scalar_Int.f k 1).bind fun t1238 => ((scalar_Equal.f k t1237 t1238).bind fun t1239 => (some t1239)))) else (some false)) else (none)) else (some false)) else (none)) else (some false)) else (none)) else (some false)) else (none)) else (some false)) = some r := H
  have A4 := Aside0.mk A40
  clear A40
  by_cases c5 : (t1227.length : Int) = 57
  · rw [if_pos c5] at H
    have c5b0 : ((t1227.length : Int) == 57) = true := beq_iff_eq.mpr c5
    have c5b1 : ((t1227.length : Int) != 57) = false := bne_eq_false_iff_eq.mpr c5
    clear c5
    by_cases c6 : 0 < (t1227.length : Int)
    · rw [if_pos c6] at H
      have c6b0 : decide (0 < (t1227.length : Int)) = true := decide_eq_true c6
      have c6b1 : decide (0 < t1227.length) = true := decide_eq_true (by omega)
      clear c6
      by_cases c7 : (rd t1227 0) = 242
      · rw [if_pos c7] at H
        have c7b0 : ((rd t1227 0) == 242) = true := beq_iff_eq.mpr c7
        have c7b1 : ((rd t1227 0) != 242) = false := bne_eq_false_iff_eq.mpr c7
        clear c7
        by_cases c8 : 1 < (t1227.length : Int)
        · rw [if_pos c8] at H
          have c8b0 : decide (1 < (t1227.length : Int)) = true := decide_eq_true c8
          have c8b1 : decide (1 < t1227.length) = true := decide_eq_true (by omega)
          clear c8
          by_cases c9 : (rd t1227 1) = 68
          · rw [if_pos c9] at H
            have c9b0 : ((rd t1227 1) == 68) = true := beq_iff_eq.mpr c9
            have c9b1 : ((rd t1227 1) != 68) = false := bne_eq_false_iff_eq.mpr c9
            clear c9
            by_cases c10 : 2 < (t1227.length : Int)
            · rw [if_pos c10] at H
              have c10b0 : decide (2 < (t1227.length : Int)) = true := decide_eq_true c10
              have c10b1 : decide (2 < t1227.length) = true := decide_eq_true (by omega)
              clear c10
              by_cases c11 : (rd t1227 2) = 88
              · rw [if_pos c11] at H
                have c11b0 : ((rd t1227 2) == 88) = true := beq_iff_eq.mpr c11
                have c11b1 : ((rd t1227 2) != 88) = false := bne_eq_false_iff_eq.mpr c11
                clear c11
                by_cases c12 : 3 < (t1227.length : Int)
                · rw [if_pos c12] at H
                  have c12b0 : decide (3 < (t1227.length : Int)) = true := decide_eq_true c12
                  have c12b1 : decide (3 < t1227.length) = true := decide_eq_true (by omega)
                  clear c12
                  by_cases c13 : (rd t1227 3) = 171
                  · rw [if_pos c13] at H
                    have c13b0 : ((rd t1227 3) == 171) = true := beq_iff_eq.mpr c13
                    have c13b1 : ((rd t1227 3) != 171) = false := bne_eq_false_iff_eq.mpr c13
                    clear c13
                    replace H := Option.bind_eq_some_iff.mp H
                    obtain ⟨t1237, A140, H⟩ := H
                    replace H : ((scalar_Int.f k 1).bind fun t1238 => ((scalar_Equal.f k t1237 t1238).bind fun t1239 => (some t1239))) = some r := H
                    have A14 := Aside0.mk A140
                    clear A140
                    replace H := Option.bind_eq_some_iff.mp H
                    obtain ⟨t1238, A150, H⟩ := H
                    replace H : ((scalar_Equal.f k t1237 t1238).bind fun t1239 => (some t1239)) = some r := H
                    have A15 := Aside0.mk A150
                    clear A150
                    replace H := Option.bind_eq_some_iff.mp H
                    obtain ⟨t1239, A160, H⟩ := H
                    replace H : (some t1239) = some r := H
                    have A16 := Aside0.mk A160
                    clear A160
                    obtain rfl := Option.some.inj H
                    go_enter Try.func71, Try.ntmps71
                    go_wp2_with (first | ((with_reducible refine gate_callee (f := 69) rfl ?_); refine goesL_ (some 3) rfl rfl Try.func69 (by kernel_rfl) rfl #[.int .i64 (-1)] rfl (by (try simp only [List.map_toArray, List.map_cons, List.map_nil]); first | done | rfl | (simp only [List.length_drop, List.length_take]; rfl)) ?_; (with_reducible refine (scalar_Int.calls k (-1) t1226 _ A1.out).mono ?_); rintro e w17 ⟨rfl, hb⟩; refine ⟨_, rfl, ?_⟩; have n0_ := Aside0.mk (below_step (by repeat (first | (with_reducible first | exact HB.out | apply below_alloc | apply pw_below_drewN | apply below_drew1) | exact HB.out)) hb); clear HB; have HB := n0_; clear n0_; (try clear hb); (try clear hb2); (try clear hk); (try clear hi)) | ((with_reducible refine gate_callee (f := 89) rfl ?_); refine goesL_ (some 4) rfl rfl Try.func89 (by kernel_rfl) rfl #[.agg (sv t1226)] rfl (by (try simp only [List.map_toArray, List.map_cons, List.map_nil]); first | done | rfl | (simp only [List.length_drop, List.length_take]; rfl)) ?_; (with_reducible refine (scalar_Bytes.calls k t1226 t1227 _ A2.out).mono ?_); rintro e w18 ⟨v1228, rfl, ho0, hb⟩; refine ⟨_, rfl, ?_⟩; have n0_ := Aside0.mk (Kd.R_lower ho0 (below_size (by repeat (first | (with_reducible first | exact HB.out | apply below_alloc | apply pw_below_drewN | apply below_drew1) | exact HB.out)))); have n1_ := Aside0.mk (below_step (by repeat (first | (with_reducible first | exact HB.out | apply below_alloc | apply pw_below_drewN | apply below_drew1) | exact HB.out)) hb); clear HB; have HO1229 := n0_; have HB := n1_; clear n0_ n1_; (try clear hb); (try clear hb2); (try clear hk); (try clear hi); (try clear ho0)) | ((with_reducible refine gate_callee (f := 69) rfl ?_); refine goesL_ (some 5) rfl rfl Try.func69 (by kernel_rfl) rfl #[.int .i64 1] rfl (by (try simp only [List.map_toArray, List.map_cons, List.map_nil]); first | done | rfl | (simp only [List.length_drop, List.length_take]; rfl)) ?_; (with_reducible refine (scalar_Int.calls k 1 t1230 _ A3.out).mono ?_); rintro e w19 ⟨rfl, hb⟩; refine ⟨_, rfl, ?_⟩; have n0_ := Aside0.mk (Kd.R_below (by (with_reducible repeat (first | apply Kd.R_alloc | apply Kd.R_drewN | apply Kd.R_drew)); exact HO1229.out) hb); have n1_ := Aside0.mk (below_step (by repeat (first | (with_reducible first | exact HB.out | apply below_alloc | apply pw_below_drewN | apply below_drew1) | exact HB.out)) hb); clear HO1229; clear HB; have HO1229 := n0_; have HB := n1_; clear n0_ n1_; (try clear hb); (try clear hb2); (try clear hk); (try clear hi)) | ((with_reducible refine gate_callee (f := 74) rfl ?_); refine goesL_ (some 6) rfl rfl Try.func74 (by kernel_rfl) rfl #[.agg (sv t1230)] rfl (by (try simp only [List.map_toArray, List.map_cons, List.map_nil]); first | done | rfl | (simp only [List.length_drop, List.length_take]; rfl)) ?_; (with_reducible refine (scalar_Half.calls k t1230 t1231 _ A4.out).mono ?_); rintro e w20 ⟨rfl, hb⟩; refine ⟨_, rfl, ?_⟩; have n0_ := Aside0.mk (Kd.R_below (by (with_reducible repeat (first | apply Kd.R_alloc | apply Kd.R_drewN | apply Kd.R_drew)); exact HO1229.out) hb); have n1_ := Aside0.mk (below_step (by repeat (first | (with_reducible first | exact HB.out | apply below_alloc | apply pw_below_drewN | apply below_drew1) | exact HB.out)) hb); clear HO1229; clear HB; have HO1229 := n0_; have HB := n1_; clear n0_ n1_; (try clear hb); (try clear hb2); (try clear hk); (try clear hi)) | ((with_reducible refine gate_dst (N := 2) rfl ?_); refine box_event ?hg (N := 2) ?hd (cs := zv) (t := 73) ?hr ?_; (case hd => rfl); (case hg => rfl); (case hr => first | (go_simp; done) | (go_simp; rfl)); intro gb1232 hg w21 hbox hb; have n0_ := Aside0.mk (Kd.R_below (by (with_reducible repeat (first | apply Kd.R_alloc | apply Kd.R_drewN | apply Kd.R_drew)); exact HO1229.out) hb); have n1_ := Aside0.mk (below_step (by repeat (first | (with_reducible first | exact HB.out | apply below_alloc | apply pw_below_drewN | apply below_drew1) | exact HB.out)) hb); have n2_ := Aside0.mk (hbox); have n3_ := Aside0.mk ((by rw [hg]; exact (below_size (by repeat (first | (with_reducible first | exact HB.out | apply below_alloc | apply pw_below_drewN | apply below_drew1) | exact HB.out))) : w.heap.size ≤ gb1232)); have n4_ := Aside0.mk ((by rw [hg]; exact (below_size (by repeat (first | (with_reducible first | exact HB.out | apply below_alloc | apply pw_below_drewN | apply below_drew1) | exact HB.out))) : w.heap.size ≤ gb1232)); clear HO1229; clear HB; have HO1229 := n0_; have HB := n1_; have BK1232 := n2_; have GW1232 := n3_; have GE1232 := n4_; clear n0_ n1_ n2_ n3_ n4_; clear hb hbox hg; obtain ⟨hcz22_0, hcz22_0_c1, hcz22_0_c2, hcz22_0_c3, hcz22_0_c4, hcz22_0_c5, hcz22_0_c6⟩ := c7_of (a := z7) BK1232.out rfl; obtain ⟨hfz22_0, hfz22_0_c1, hfz22_0_c2, hfz22_0_c3, hfz22_0_c4, hfz22_0_c5, hfz22_0_c6⟩ := fz7 BK1232.out; obtain ⟨Ao23, co23, eo23⟩ := Kd.R_slice HO1229.out; subst eo23; have p1233 : 0 ≤ (0 : Int) := (by omega); have q1233 : 0 < (t1227.length : Int) := of_decide_eq_true (by first | (with_reducible assumption) | assumption); obtain ⟨ad1233, e1233, hx1233_0⟩ := Kd.at_int (Kd.R_reads' HO1229.out).2.2 0 p1233 q1233; cases e1233; have qi1233 : (0 < t1227.length) = True := eq_true (by omega); (try rw [show ((0 : Int)).toNat = 0 from rfl] at hx1233_0); (try rw [Addr.add_zero'] at hx1233_0); have hn1233_0 : ad1233.block ≠ gb1232 := Kd.own_blk (Kd.R_ne HO1229.out BK1232.out (by decide)); replace hx1233_0 := (cell_put7 (p := gb1232) (by first | (rw [add_block]; exact hn1233_0) | (show (Addr.add _ _).block ≠ _; rw [add_block]; exact hn1233_0) | exact hn1233_0) t1231).trans hx1233_0; clear hn1233_0; replace p1233 := eq_true p1233; replace q1233 := eq_true q1233; have p1234 : 0 ≤ (1 : Int) := (by omega); have q1234 : 1 < (t1227.length : Int) := of_decide_eq_true (by first | (with_reducible assumption) | assumption); obtain ⟨ad1234, e1234, hx1234_0⟩ := Kd.at_int (Kd.R_reads' HO1229.out).2.2 1 p1234 q1234; obtain rfl : ad1233 = ad1234 := (by injection e1234); (try simp only [show (1 : Int).toNat = 1 from rfl, Nat.reduceMul, Nat.reduceEqDiff, Go.Addr.add, ↓reduceIte] at hx1234_0); have qi1234 : (1 < t1227.length) = True := eq_true (by omega); (try rw [show ((1 : Int)).toNat = 1 from rfl] at hx1234_0); have hn1234_0 : ad1233.block ≠ gb1232 := Kd.own_blk (Kd.R_ne HO1229.out BK1232.out (by decide)); replace hx1234_0 := (cell_put7 (p := gb1232) (by first | (rw [add_block]; exact hn1234_0) | (show (Addr.add _ _).block ≠ _; rw [add_block]; exact hn1234_0) | exact hn1234_0) t1231).trans hx1234_0; clear hn1234_0; replace p1234 := eq_true p1234; replace q1234 := eq_true q1234; have p1235 : 0 ≤ (2 : Int) := (by omega); have q1235 : 2 < (t1227.length : Int) := of_decide_eq_true (by first | (with_reducible assumption) | assumption); obtain ⟨ad1235, e1235, hx1235_0⟩ := Kd.at_int (Kd.R_reads' HO1229.out).2.2 2 p1235 q1235; obtain rfl : ad1233 = ad1235 := (by injection e1235); (try simp only [show (2 : Int).toNat = 2 from rfl, Nat.reduceMul, Nat.reduceEqDiff, Go.Addr.add, ↓reduceIte] at hx1235_0); have qi1235 : (2 < t1227.length) = True := eq_true (by omega); (try rw [show ((2 : Int)).toNat = 2 from rfl] at hx1235_0); have hn1235_0 : ad1233.block ≠ gb1232 := Kd.own_blk (Kd.R_ne HO1229.out BK1232.out (by decide)); replace hx1235_0 := (cell_put7 (p := gb1232) (by first | (rw [add_block]; exact hn1235_0) | (show (Addr.add _ _).block ≠ _; rw [add_block]; exact hn1235_0) | exact hn1235_0) t1231).trans hx1235_0; clear hn1235_0; replace p1235 := eq_true p1235; replace q1235 := eq_true q1235; have p1236 : 0 ≤ (3 : Int) := (by omega); have q1236 : 3 < (t1227.length : Int) := of_decide_eq_true (by first | (with_reducible assumption) | assumption); obtain ⟨ad1236, e1236, hx1236_0⟩ := Kd.at_int (Kd.R_reads' HO1229.out).2.2 3 p1236 q1236; obtain rfl : ad1233 = ad1236 := (by injection e1236); (try simp only [show (3 : Int).toNat = 3 from rfl, Nat.reduceMul, Nat.reduceEqDiff, Go.Addr.add, ↓reduceIte] at hx1236_0); have qi1236 : (3 < t1227.length) = True := eq_true (by omega); (try rw [show ((3 : Int)).toNat = 3 from rfl] at hx1236_0); have hn1236_0 : ad1233.block ≠ gb1232 := Kd.own_blk (Kd.R_ne HO1229.out BK1232.out (by decide)); replace hx1236_0 := (cell_put7 (p := gb1232) (by first | (rw [add_block]; exact hn1236_0) | (show (Addr.add _ _).block ≠ _; rw [add_block]; exact hn1236_0) | exact hn1236_0) t1231).trans hx1236_0; clear hn1236_0; replace p1236 := eq_true p1236; replace q1236 := eq_true q1236) | (go_at_call 64; (with_reducible refine (scalar_Add.calls k t1231 t1231 t1237 _ A14.out).mono ?_); rintro e w24 ⟨rfl, hb⟩; have n0_ := Aside0.mk (Kd.R_below (by (with_reducible repeat (first | apply Kd.R_alloc | apply Kd.R_drewN | apply Kd.R_drew)); exact (Kd.R_mono (R_far7 (p := gb1232) (Kd.R_types HO1229.out BK1232.out (by decide)) (fun _ hk => hk.2)) (fun _ h_ => h_.1))) hb); have n1_ := Aside0.mk (blk_below (g := gb1232) (o := .cells (sv t1231) 73 (0, 0)) (by (with_reducible repeat (first | refine blk_drewN ?_ _ | refine blk_drew ?_ | refine blk_alloc ?_ _)); refine blk_put7z ?_; (with_reducible repeat (first | refine blk_drewN ?_ _ | refine blk_drew ?_ | refine blk_alloc ?_ _)); exact BK1232.out) hb); have n2_ := Aside0.mk (below_step (by repeat (first | (with_reducible first | exact HB.out | apply below_alloc | apply pw_below_drewN | apply below_drew1 | refine below_set ?_ GE1232.out) | exact HB.out)) hb); clear HO1229; clear BK1232; clear HB; have HO1229 := n0_; have BK1232 := n1_; have HB := n2_; clear n0_ n1_ n2_; (try clear hb); (try clear hb2); (try clear hk); (try clear hi)) | (go_at_call 69; (with_reducible refine (scalar_Int.calls k 1 t1238 _ A15.out).mono ?_); rintro e w25 ⟨rfl, hb⟩; have n0_ := Aside0.mk (Kd.R_below (by (with_reducible repeat (first | apply Kd.R_alloc | apply Kd.R_drewN | apply Kd.R_drew)); exact HO1229.out) hb); have n1_ := Aside0.mk (blk_below (g := gb1232) (o := .cells (sv t1231) 73 (0, 0)) (by (with_reducible repeat (first | refine blk_drewN ?_ _ | refine blk_drew ?_ | refine blk_alloc ?_ _)); exact BK1232.out) hb); have n2_ := Aside0.mk (below_step (by repeat (first | (with_reducible first | exact HB.out | apply below_alloc | apply pw_below_drewN | apply below_drew1 | refine below_set ?_ GE1232.out) | exact HB.out)) hb); clear HO1229; clear BK1232; clear HB; have HO1229 := n0_; have BK1232 := n1_; have HB := n2_; clear n0_ n1_ n2_; (try clear hb); (try clear hb2); (try clear hk); (try clear hi)) | (go_at_call 76; (with_reducible refine (scalar_Equal.calls k t1237 t1238 t1239 _ A16.out).mono ?_); rintro e w26 ⟨rfl, hb⟩; have n0_ := Aside0.mk (Kd.R_below (by (with_reducible repeat (first | apply Kd.R_alloc | apply Kd.R_drewN | apply Kd.R_drew)); exact HO1229.out) hb); have n1_ := Aside0.mk (blk_below (g := gb1232) (o := .cells (sv t1231) 73 (0, 0)) (by (with_reducible repeat (first | refine blk_drewN ?_ _ | refine blk_drew ?_ | refine blk_alloc ?_ _)); exact BK1232.out) hb); have n2_ := Aside0.mk (below_step (by repeat (first | (with_reducible first | exact HB.out | apply below_alloc | apply pw_below_drewN | apply below_drew1 | refine below_set ?_ GE1232.out) | exact HB.out)) hb); clear HO1229; clear BK1232; clear HB; have HO1229 := n0_; have BK1232 := n1_; have HB := n2_; clear n0_ n1_ n2_; (try clear hb); (try clear hb2); (try clear hk); (try clear hi)))
                    go_ret
                    exact ⟨by first | rfl | (simp [errW_none, errW_some] <;> rfl) | (simp [*, errW_none, errW_some] <;> rfl), by repeat (first | (with_reducible first | exact HB.out | apply below_alloc | apply pw_below_drewN | apply below_drew1 | refine below_set ?_ GE1232.out) | exact HB.out)⟩
                  · rw [if_neg c13] at H
                    have c13b0 : ((rd t1227 3) == 171) = false := beq_eq_false_iff_ne.mpr c13
                    have c13b1 : ((rd t1227 3) != 171) = true := bne_iff_ne.mpr c13
                    obtain rfl := Option.some.inj H
                    go_enter Try.func71, Try.ntmps71
                    go_wp2_with (first | ((with_reducible refine gate_callee (f := 69) rfl ?_); refine goesL_ (some 3) rfl rfl Try.func69 (by kernel_rfl) rfl #[.int .i64 (-1)] rfl (by (try simp only [List.map_toArray, List.map_cons, List.map_nil]); first | done | rfl | (simp only [List.length_drop, List.length_take]; rfl)) ?_; (with_reducible refine (scalar_Int.calls k (-1) t1226 _ A1.out).mono ?_); rintro e w27 ⟨rfl, hb⟩; refine ⟨_, rfl, ?_⟩; have n0_ := Aside0.mk (below_step (by repeat (first | (with_reducible first | exact HB.out | apply below_alloc | apply pw_below_drewN | apply below_drew1) | exact HB.out)) hb); clear HB; have HB := n0_; clear n0_; (try clear hb); (try clear hb2); (try clear hk); (try clear hi)) | ((with_reducible refine gate_callee (f := 89) rfl ?_); refine goesL_ (some 4) rfl rfl Try.func89 (by kernel_rfl) rfl #[.agg (sv t1226)] rfl (by (try simp only [List.map_toArray, List.map_cons, List.map_nil]); first | done | rfl | (simp only [List.length_drop, List.length_take]; rfl)) ?_; (with_reducible refine (scalar_Bytes.calls k t1226 t1227 _ A2.out).mono ?_); rintro e w28 ⟨v1228, rfl, ho0, hb⟩; refine ⟨_, rfl, ?_⟩; have n0_ := Aside0.mk (Kd.R_lower ho0 (below_size (by repeat (first | (with_reducible first | exact HB.out | apply below_alloc | apply pw_below_drewN | apply below_drew1) | exact HB.out)))); have n1_ := Aside0.mk (below_step (by repeat (first | (with_reducible first | exact HB.out | apply below_alloc | apply pw_below_drewN | apply below_drew1) | exact HB.out)) hb); clear HB; have HO1229 := n0_; have HB := n1_; clear n0_ n1_; (try clear hb); (try clear hb2); (try clear hk); (try clear hi); (try clear ho0)) | ((with_reducible refine gate_callee (f := 69) rfl ?_); refine goesL_ (some 5) rfl rfl Try.func69 (by kernel_rfl) rfl #[.int .i64 1] rfl (by (try simp only [List.map_toArray, List.map_cons, List.map_nil]); first | done | rfl | (simp only [List.length_drop, List.length_take]; rfl)) ?_; (with_reducible refine (scalar_Int.calls k 1 t1230 _ A3.out).mono ?_); rintro e w29 ⟨rfl, hb⟩; refine ⟨_, rfl, ?_⟩; have n0_ := Aside0.mk (Kd.R_below (by (with_reducible repeat (first | apply Kd.R_alloc | apply Kd.R_drewN | apply Kd.R_drew)); exact HO1229.out) hb); have n1_ := Aside0.mk (below_step (by repeat (first | (with_reducible first | exact HB.out | apply below_alloc | apply pw_below_drewN | apply below_drew1) | exact HB.out)) hb); clear HO1229; clear HB; have HO1229 := n0_; have HB := n1_; clear n0_ n1_; (try clear hb); (try clear hb2); (try clear hk); (try clear hi)) | ((with_reducible refine gate_callee (f := 74) rfl ?_); refine goesL_ (some 6) rfl rfl Try.func74 (by kernel_rfl) rfl #[.agg (sv t1230)] rfl (by (try simp only [List.map_toArray, List.map_cons, List.map_nil]); first | done | rfl | (simp only [List.length_drop, List.length_take]; rfl)) ?_; (with_reducible refine (scalar_Half.calls k t1230 t1231 _ A4.out).mono ?_); rintro e w30 ⟨rfl, hb⟩; refine ⟨_, rfl, ?_⟩; have n0_ := Aside0.mk (Kd.R_below (by (with_reducible repeat (first | apply Kd.R_alloc | apply Kd.R_drewN | apply Kd.R_drew)); exact HO1229.out) hb); have n1_ := Aside0.mk (below_step (by repeat (first | (with_reducible first | exact HB.out | apply below_alloc | apply pw_below_drewN | apply below_drew1) | exact HB.out)) hb); clear HO1229; clear HB; have HO1229 := n0_; have HB := n1_; clear n0_ n1_; (try clear hb); (try clear hb2); (try clear hk); (try clear hi)) | ((with_reducible refine gate_dst (N := 2) rfl ?_); refine box_event ?hg (N := 2) ?hd (cs := zv) (t := 73) ?hr ?_; (case hd => rfl); (case hg => rfl); (case hr => first | (go_simp; done) | (go_simp; rfl)); intro gb1232 hg w31 hbox hb; have n0_ := Aside0.mk (Kd.R_below (by (with_reducible repeat (first | apply Kd.R_alloc | apply Kd.R_drewN | apply Kd.R_drew)); exact HO1229.out) hb); have n1_ := Aside0.mk (below_step (by repeat (first | (with_reducible first | exact HB.out | apply below_alloc | apply pw_below_drewN | apply below_drew1) | exact HB.out)) hb); have n2_ := Aside0.mk (hbox); have n3_ := Aside0.mk ((by rw [hg]; exact (below_size (by repeat (first | (with_reducible first | exact HB.out | apply below_alloc | apply pw_below_drewN | apply below_drew1) | exact HB.out))) : w.heap.size ≤ gb1232)); have n4_ := Aside0.mk ((by rw [hg]; exact (below_size (by repeat (first | (with_reducible first | exact HB.out | apply below_alloc | apply pw_below_drewN | apply below_drew1) | exact HB.out))) : w.heap.size ≤ gb1232)); clear HO1229; clear HB; have HO1229 := n0_; have HB := n1_; have BK1232 := n2_; have GW1232 := n3_; have GE1232 := n4_; clear n0_ n1_ n2_ n3_ n4_; clear hb hbox hg; obtain ⟨hcz32_0, hcz32_0_c1, hcz32_0_c2, hcz32_0_c3, hcz32_0_c4, hcz32_0_c5, hcz32_0_c6⟩ := c7_of (a := z7) BK1232.out rfl; obtain ⟨hfz32_0, hfz32_0_c1, hfz32_0_c2, hfz32_0_c3, hfz32_0_c4, hfz32_0_c5, hfz32_0_c6⟩ := fz7 BK1232.out; obtain ⟨Ao33, co33, eo33⟩ := Kd.R_slice HO1229.out; subst eo33; have p1233 : 0 ≤ (0 : Int) := (by omega); have q1233 : 0 < (t1227.length : Int) := of_decide_eq_true (by first | (with_reducible assumption) | assumption); obtain ⟨ad1233, e1233, hx1233_0⟩ := Kd.at_int (Kd.R_reads' HO1229.out).2.2 0 p1233 q1233; cases e1233; have qi1233 : (0 < t1227.length) = True := eq_true (by omega); (try rw [show ((0 : Int)).toNat = 0 from rfl] at hx1233_0); (try rw [Addr.add_zero'] at hx1233_0); have hn1233_0 : ad1233.block ≠ gb1232 := Kd.own_blk (Kd.R_ne HO1229.out BK1232.out (by decide)); replace hx1233_0 := (cell_put7 (p := gb1232) (by first | (rw [add_block]; exact hn1233_0) | (show (Addr.add _ _).block ≠ _; rw [add_block]; exact hn1233_0) | exact hn1233_0) t1231).trans hx1233_0; clear hn1233_0; replace p1233 := eq_true p1233; replace q1233 := eq_true q1233; have p1234 : 0 ≤ (1 : Int) := (by omega); have q1234 : 1 < (t1227.length : Int) := of_decide_eq_true (by first | (with_reducible assumption) | assumption); obtain ⟨ad1234, e1234, hx1234_0⟩ := Kd.at_int (Kd.R_reads' HO1229.out).2.2 1 p1234 q1234; obtain rfl : ad1233 = ad1234 := (by injection e1234); (try simp only [show (1 : Int).toNat = 1 from rfl, Nat.reduceMul, Nat.reduceEqDiff, Go.Addr.add, ↓reduceIte] at hx1234_0); have qi1234 : (1 < t1227.length) = True := eq_true (by omega); (try rw [show ((1 : Int)).toNat = 1 from rfl] at hx1234_0); have hn1234_0 : ad1233.block ≠ gb1232 := Kd.own_blk (Kd.R_ne HO1229.out BK1232.out (by decide)); replace hx1234_0 := (cell_put7 (p := gb1232) (by first | (rw [add_block]; exact hn1234_0) | (show (Addr.add _ _).block ≠ _; rw [add_block]; exact hn1234_0) | exact hn1234_0) t1231).trans hx1234_0; clear hn1234_0; replace p1234 := eq_true p1234; replace q1234 := eq_true q1234; have p1235 : 0 ≤ (2 : Int) := (by omega); have q1235 : 2 < (t1227.length : Int) := of_decide_eq_true (by first | (with_reducible assumption) | assumption); obtain ⟨ad1235, e1235, hx1235_0⟩ := Kd.at_int (Kd.R_reads' HO1229.out).2.2 2 p1235 q1235; obtain rfl : ad1233 = ad1235 := (by injection e1235); (try simp only [show (2 : Int).toNat = 2 from rfl, Nat.reduceMul, Nat.reduceEqDiff, Go.Addr.add, ↓reduceIte] at hx1235_0); have qi1235 : (2 < t1227.length) = True := eq_true (by omega); (try rw [show ((2 : Int)).toNat = 2 from rfl] at hx1235_0); have hn1235_0 : ad1233.block ≠ gb1232 := Kd.own_blk (Kd.R_ne HO1229.out BK1232.out (by decide)); replace hx1235_0 := (cell_put7 (p := gb1232) (by first | (rw [add_block]; exact hn1235_0) | (show (Addr.add _ _).block ≠ _; rw [add_block]; exact hn1235_0) | exact hn1235_0) t1231).trans hx1235_0; clear hn1235_0; replace p1235 := eq_true p1235; replace q1235 := eq_true q1235; have p1236 : 0 ≤ (3 : Int) := (by omega); have q1236 : 3 < (t1227.length : Int) := of_decide_eq_true (by first | (with_reducible assumption) | assumption); obtain ⟨ad1236, e1236, hx1236_0⟩ := Kd.at_int (Kd.R_reads' HO1229.out).2.2 3 p1236 q1236; obtain rfl : ad1233 = ad1236 := (by injection e1236); (try simp only [show (3 : Int).toNat = 3 from rfl, Nat.reduceMul, Nat.reduceEqDiff, Go.Addr.add, ↓reduceIte] at hx1236_0); have qi1236 : (3 < t1227.length) = True := eq_true (by omega); (try rw [show ((3 : Int)).toNat = 3 from rfl] at hx1236_0); have hn1236_0 : ad1233.block ≠ gb1232 := Kd.own_blk (Kd.R_ne HO1229.out BK1232.out (by decide)); replace hx1236_0 := (cell_put7 (p := gb1232) (by first | (rw [add_block]; exact hn1236_0) | (show (Addr.add _ _).block ≠ _; rw [add_block]; exact hn1236_0) | exact hn1236_0) t1231).trans hx1236_0; clear hn1236_0; replace p1236 := eq_true p1236; replace q1236 := eq_true q1236))
                    go_ret
                    exact ⟨by first | rfl | (simp [errW_none, errW_some] <;> rfl) | (simp [*, errW_none, errW_some] <;> rfl), by repeat (first | (with_reducible first | exact HB.out | apply below_alloc | apply pw_below_drewN | apply below_drew1 | refine below_set ?_ GE1232.out) | exact HB.out)⟩
                · rw [if_neg c12] at H
                  exact absurd H (by simp)
              · rw [if_neg c11] at H
                have c11b0 : ((rd t1227 2) == 88) = false := beq_eq_false_iff_ne.mpr c11
                have c11b1 : ((rd t1227 2) != 88) = true := bne_iff_ne.mpr c11
                obtain rfl := Option.some.inj H
                go_enter Try.func71, Try.ntmps71
                go_wp2_with (first | ((with_reducible refine gate_callee (f := 69) rfl ?_); refine goesL_ (some 3) rfl rfl Try.func69 (by kernel_rfl) rfl #[.int .i64 (-1)] rfl (by (try simp only [List.map_toArray, List.map_cons, List.map_nil]); first | done | rfl | (simp only [List.length_drop, List.length_take]; rfl)) ?_; (with_reducible refine (scalar_Int.calls k (-1) t1226 _ A1.out).mono ?_); rintro e w34 ⟨rfl, hb⟩; refine ⟨_, rfl, ?_⟩; have n0_ := Aside0.mk (below_step (by repeat (first | (with_reducible first | exact HB.out | apply below_alloc | apply pw_below_drewN | apply below_drew1) | exact HB.out)) hb); clear HB; have HB := n0_; clear n0_; (try clear hb); (try clear hb2); (try clear hk); (try clear hi)) | ((with_reducible refine gate_callee (f := 89) rfl ?_); refine goesL_ (some 4) rfl rfl Try.func89 (by kernel_rfl) rfl #[.agg (sv t1226)] rfl (by (try simp only [List.map_toArray, List.map_cons, List.map_nil]); first | done | rfl | (simp only [List.length_drop, List.length_take]; rfl)) ?_; (with_reducible refine (scalar_Bytes.calls k t1226 t1227 _ A2.out).mono ?_); rintro e w35 ⟨v1228, rfl, ho0, hb⟩; refine ⟨_, rfl, ?_⟩; have n0_ := Aside0.mk (Kd.R_lower ho0 (below_size (by repeat (first | (with_reducible first | exact HB.out | apply below_alloc | apply pw_below_drewN | apply below_drew1) | exact HB.out)))); have n1_ := Aside0.mk (below_step (by repeat (first | (with_reducible first | exact HB.out | apply below_alloc | apply pw_below_drewN | apply below_drew1) | exact HB.out)) hb); clear HB; have HO1229 := n0_; have HB := n1_; clear n0_ n1_; (try clear hb); (try clear hb2); (try clear hk); (try clear hi); (try clear ho0)) | ((with_reducible refine gate_callee (f := 69) rfl ?_); refine goesL_ (some 5) rfl rfl Try.func69 (by kernel_rfl) rfl #[.int .i64 1] rfl (by (try simp only [List.map_toArray, List.map_cons, List.map_nil]); first | done | rfl | (simp only [List.length_drop, List.length_take]; rfl)) ?_; (with_reducible refine (scalar_Int.calls k 1 t1230 _ A3.out).mono ?_); rintro e w36 ⟨rfl, hb⟩; refine ⟨_, rfl, ?_⟩; have n0_ := Aside0.mk (Kd.R_below (by (with_reducible repeat (first | apply Kd.R_alloc | apply Kd.R_drewN | apply Kd.R_drew)); exact HO1229.out) hb); have n1_ := Aside0.mk (below_step (by repeat (first | (with_reducible first | exact HB.out | apply below_alloc | apply pw_below_drewN | apply below_drew1) | exact HB.out)) hb); clear HO1229; clear HB; have HO1229 := n0_; have HB := n1_; clear n0_ n1_; (try clear hb); (try clear hb2); (try clear hk); (try clear hi)) | ((with_reducible refine gate_callee (f := 74) rfl ?_); refine goesL_ (some 6) rfl rfl Try.func74 (by kernel_rfl) rfl #[.agg (sv t1230)] rfl (by (try simp only [List.map_toArray, List.map_cons, List.map_nil]); first | done | rfl | (simp only [List.length_drop, List.length_take]; rfl)) ?_; (with_reducible refine (scalar_Half.calls k t1230 t1231 _ A4.out).mono ?_); rintro e w37 ⟨rfl, hb⟩; refine ⟨_, rfl, ?_⟩; have n0_ := Aside0.mk (Kd.R_below (by (with_reducible repeat (first | apply Kd.R_alloc | apply Kd.R_drewN | apply Kd.R_drew)); exact HO1229.out) hb); have n1_ := Aside0.mk (below_step (by repeat (first | (with_reducible first | exact HB.out | apply below_alloc | apply pw_below_drewN | apply below_drew1) | exact HB.out)) hb); clear HO1229; clear HB; have HO1229 := n0_; have HB := n1_; clear n0_ n1_; (try clear hb); (try clear hb2); (try clear hk); (try clear hi)) | ((with_reducible refine gate_dst (N := 2) rfl ?_); refine box_event ?hg (N := 2) ?hd (cs := zv) (t := 73) ?hr ?_; (case hd => rfl); (case hg => rfl); (case hr => first | (go_simp; done) | (go_simp; rfl)); intro gb1232 hg w38 hbox hb; have n0_ := Aside0.mk (Kd.R_below (by (with_reducible repeat (first | apply Kd.R_alloc | apply Kd.R_drewN | apply Kd.R_drew)); exact HO1229.out) hb); have n1_ := Aside0.mk (below_step (by repeat (first | (with_reducible first | exact HB.out | apply below_alloc | apply pw_below_drewN | apply below_drew1) | exact HB.out)) hb); have n2_ := Aside0.mk (hbox); have n3_ := Aside0.mk ((by rw [hg]; exact (below_size (by repeat (first | (with_reducible first | exact HB.out | apply below_alloc | apply pw_below_drewN | apply below_drew1) | exact HB.out))) : w.heap.size ≤ gb1232)); have n4_ := Aside0.mk ((by rw [hg]; exact (below_size (by repeat (first | (with_reducible first | exact HB.out | apply below_alloc | apply pw_below_drewN | apply below_drew1) | exact HB.out))) : w.heap.size ≤ gb1232)); clear HO1229; clear HB; have HO1229 := n0_; have HB := n1_; have BK1232 := n2_; have GW1232 := n3_; have GE1232 := n4_; clear n0_ n1_ n2_ n3_ n4_; clear hb hbox hg; obtain ⟨hcz39_0, hcz39_0_c1, hcz39_0_c2, hcz39_0_c3, hcz39_0_c4, hcz39_0_c5, hcz39_0_c6⟩ := c7_of (a := z7) BK1232.out rfl; obtain ⟨hfz39_0, hfz39_0_c1, hfz39_0_c2, hfz39_0_c3, hfz39_0_c4, hfz39_0_c5, hfz39_0_c6⟩ := fz7 BK1232.out; obtain ⟨Ao40, co40, eo40⟩ := Kd.R_slice HO1229.out; subst eo40; have p1233 : 0 ≤ (0 : Int) := (by omega); have q1233 : 0 < (t1227.length : Int) := of_decide_eq_true (by first | (with_reducible assumption) | assumption); obtain ⟨ad1233, e1233, hx1233_0⟩ := Kd.at_int (Kd.R_reads' HO1229.out).2.2 0 p1233 q1233; cases e1233; have qi1233 : (0 < t1227.length) = True := eq_true (by omega); (try rw [show ((0 : Int)).toNat = 0 from rfl] at hx1233_0); (try rw [Addr.add_zero'] at hx1233_0); have hn1233_0 : ad1233.block ≠ gb1232 := Kd.own_blk (Kd.R_ne HO1229.out BK1232.out (by decide)); replace hx1233_0 := (cell_put7 (p := gb1232) (by first | (rw [add_block]; exact hn1233_0) | (show (Addr.add _ _).block ≠ _; rw [add_block]; exact hn1233_0) | exact hn1233_0) t1231).trans hx1233_0; clear hn1233_0; replace p1233 := eq_true p1233; replace q1233 := eq_true q1233; have p1234 : 0 ≤ (1 : Int) := (by omega); have q1234 : 1 < (t1227.length : Int) := of_decide_eq_true (by first | (with_reducible assumption) | assumption); obtain ⟨ad1234, e1234, hx1234_0⟩ := Kd.at_int (Kd.R_reads' HO1229.out).2.2 1 p1234 q1234; obtain rfl : ad1233 = ad1234 := (by injection e1234); (try simp only [show (1 : Int).toNat = 1 from rfl, Nat.reduceMul, Nat.reduceEqDiff, Go.Addr.add, ↓reduceIte] at hx1234_0); have qi1234 : (1 < t1227.length) = True := eq_true (by omega); (try rw [show ((1 : Int)).toNat = 1 from rfl] at hx1234_0); have hn1234_0 : ad1233.block ≠ gb1232 := Kd.own_blk (Kd.R_ne HO1229.out BK1232.out (by decide)); replace hx1234_0 := (cell_put7 (p := gb1232) (by first | (rw [add_block]; exact hn1234_0) | (show (Addr.add _ _).block ≠ _; rw [add_block]; exact hn1234_0) | exact hn1234_0) t1231).trans hx1234_0; clear hn1234_0; replace p1234 := eq_true p1234; replace q1234 := eq_true q1234; have p1235 : 0 ≤ (2 : Int) := (by omega); have q1235 : 2 < (t1227.length : Int) := of_decide_eq_true (by first | (with_reducible assumption) | assumption); obtain ⟨ad1235, e1235, hx1235_0⟩ := Kd.at_int (Kd.R_reads' HO1229.out).2.2 2 p1235 q1235; obtain rfl : ad1233 = ad1235 := (by injection e1235); (try simp only [show (2 : Int).toNat = 2 from rfl, Nat.reduceMul, Nat.reduceEqDiff, Go.Addr.add, ↓reduceIte] at hx1235_0); have qi1235 : (2 < t1227.length) = True := eq_true (by omega); (try rw [show ((2 : Int)).toNat = 2 from rfl] at hx1235_0); have hn1235_0 : ad1233.block ≠ gb1232 := Kd.own_blk (Kd.R_ne HO1229.out BK1232.out (by decide)); replace hx1235_0 := (cell_put7 (p := gb1232) (by first | (rw [add_block]; exact hn1235_0) | (show (Addr.add _ _).block ≠ _; rw [add_block]; exact hn1235_0) | exact hn1235_0) t1231).trans hx1235_0; clear hn1235_0; replace p1235 := eq_true p1235; replace q1235 := eq_true q1235))
                go_ret
                exact ⟨by first | rfl | (simp [errW_none, errW_some] <;> rfl) | (simp [*, errW_none, errW_some] <;> rfl), by repeat (first | (with_reducible first | exact HB.out | apply below_alloc | apply pw_below_drewN | apply below_drew1 | refine below_set ?_ GE1232.out) | exact HB.out)⟩
            · rw [if_neg c10] at H
              exact absurd H (by simp)
          · rw [if_neg c9] at H
            have c9b0 : ((rd t1227 1) == 68) = false := beq_eq_false_iff_ne.mpr c9
            have c9b1 : ((rd t1227 1) != 68) = true := bne_iff_ne.mpr c9
            obtain rfl := Option.some.inj H
            go_enter Try.func71, Try.ntmps71
            go_wp2_with (first | ((with_reducible refine gate_callee (f := 69) rfl ?_); refine goesL_ (some 3) rfl rfl Try.func69 (by kernel_rfl) rfl #[.int .i64 (-1)] rfl (by (try simp only [List.map_toArray, List.map_cons, List.map_nil]); first | done | rfl | (simp only [List.length_drop, List.length_take]; rfl)) ?_; (with_reducible refine (scalar_Int.calls k (-1) t1226 _ A1.out).mono ?_); rintro e w41 ⟨rfl, hb⟩; refine ⟨_, rfl, ?_⟩; have n0_ := Aside0.mk (below_step (by repeat (first | (with_reducible first | exact HB.out | apply below_alloc | apply pw_below_drewN | apply below_drew1) | exact HB.out)) hb); clear HB; have HB := n0_; clear n0_; (try clear hb); (try clear hb2); (try clear hk); (try clear hi)) | ((with_reducible refine gate_callee (f := 89) rfl ?_); refine goesL_ (some 4) rfl rfl Try.func89 (by kernel_rfl) rfl #[.agg (sv t1226)] rfl (by (try simp only [List.map_toArray, List.map_cons, List.map_nil]); first | done | rfl | (simp only [List.length_drop, List.length_take]; rfl)) ?_; (with_reducible refine (scalar_Bytes.calls k t1226 t1227 _ A2.out).mono ?_); rintro e w42 ⟨v1228, rfl, ho0, hb⟩; refine ⟨_, rfl, ?_⟩; have n0_ := Aside0.mk (Kd.R_lower ho0 (below_size (by repeat (first | (with_reducible first | exact HB.out | apply below_alloc | apply pw_below_drewN | apply below_drew1) | exact HB.out)))); have n1_ := Aside0.mk (below_step (by repeat (first | (with_reducible first | exact HB.out | apply below_alloc | apply pw_below_drewN | apply below_drew1) | exact HB.out)) hb); clear HB; have HO1229 := n0_; have HB := n1_; clear n0_ n1_; (try clear hb); (try clear hb2); (try clear hk); (try clear hi); (try clear ho0)) | ((with_reducible refine gate_callee (f := 69) rfl ?_); refine goesL_ (some 5) rfl rfl Try.func69 (by kernel_rfl) rfl #[.int .i64 1] rfl (by (try simp only [List.map_toArray, List.map_cons, List.map_nil]); first | done | rfl | (simp only [List.length_drop, List.length_take]; rfl)) ?_; (with_reducible refine (scalar_Int.calls k 1 t1230 _ A3.out).mono ?_); rintro e w43 ⟨rfl, hb⟩; refine ⟨_, rfl, ?_⟩; have n0_ := Aside0.mk (Kd.R_below (by (with_reducible repeat (first | apply Kd.R_alloc | apply Kd.R_drewN | apply Kd.R_drew)); exact HO1229.out) hb); have n1_ := Aside0.mk (below_step (by repeat (first | (with_reducible first | exact HB.out | apply below_alloc | apply pw_below_drewN | apply below_drew1) | exact HB.out)) hb); clear HO1229; clear HB; have HO1229 := n0_; have HB := n1_; clear n0_ n1_; (try clear hb); (try clear hb2); (try clear hk); (try clear hi)) | ((with_reducible refine gate_callee (f := 74) rfl ?_); refine goesL_ (some 6) rfl rfl Try.func74 (by kernel_rfl) rfl #[.agg (sv t1230)] rfl (by (try simp only [List.map_toArray, List.map_cons, List.map_nil]); first | done | rfl | (simp only [List.length_drop, List.length_take]; rfl)) ?_; (with_reducible refine (scalar_Half.calls k t1230 t1231 _ A4.out).mono ?_); rintro e w44 ⟨rfl, hb⟩; refine ⟨_, rfl, ?_⟩; have n0_ := Aside0.mk (Kd.R_below (by (with_reducible repeat (first | apply Kd.R_alloc | apply Kd.R_drewN | apply Kd.R_drew)); exact HO1229.out) hb); have n1_ := Aside0.mk (below_step (by repeat (first | (with_reducible first | exact HB.out | apply below_alloc | apply pw_below_drewN | apply below_drew1) | exact HB.out)) hb); clear HO1229; clear HB; have HO1229 := n0_; have HB := n1_; clear n0_ n1_; (try clear hb); (try clear hb2); (try clear hk); (try clear hi)) | ((with_reducible refine gate_dst (N := 2) rfl ?_); refine box_event ?hg (N := 2) ?hd (cs := zv) (t := 73) ?hr ?_; (case hd => rfl); (case hg => rfl); (case hr => first | (go_simp; done) | (go_simp; rfl)); intro gb1232 hg w45 hbox hb; have n0_ := Aside0.mk (Kd.R_below (by (with_reducible repeat (first | apply Kd.R_alloc | apply Kd.R_drewN | apply Kd.R_drew)); exact HO1229.out) hb); have n1_ := Aside0.mk (below_step (by repeat (first | (with_reducible first | exact HB.out | apply below_alloc | apply pw_below_drewN | apply below_drew1) | exact HB.out)) hb); have n2_ := Aside0.mk (hbox); have n3_ := Aside0.mk ((by rw [hg]; exact (below_size (by repeat (first | (with_reducible first | exact HB.out | apply below_alloc | apply pw_below_drewN | apply below_drew1) | exact HB.out))) : w.heap.size ≤ gb1232)); have n4_ := Aside0.mk ((by rw [hg]; exact (below_size (by repeat (first | (with_reducible first | exact HB.out | apply below_alloc | apply pw_below_drewN | apply below_drew1) | exact HB.out))) : w.heap.size ≤ gb1232)); clear HO1229; clear HB; have HO1229 := n0_; have HB := n1_; have BK1232 := n2_; have GW1232 := n3_; have GE1232 := n4_; clear n0_ n1_ n2_ n3_ n4_; clear hb hbox hg; obtain ⟨hcz46_0, hcz46_0_c1, hcz46_0_c2, hcz46_0_c3, hcz46_0_c4, hcz46_0_c5, hcz46_0_c6⟩ := c7_of (a := z7) BK1232.out rfl; obtain ⟨hfz46_0, hfz46_0_c1, hfz46_0_c2, hfz46_0_c3, hfz46_0_c4, hfz46_0_c5, hfz46_0_c6⟩ := fz7 BK1232.out; obtain ⟨Ao47, co47, eo47⟩ := Kd.R_slice HO1229.out; subst eo47; have p1233 : 0 ≤ (0 : Int) := (by omega); have q1233 : 0 < (t1227.length : Int) := of_decide_eq_true (by first | (with_reducible assumption) | assumption); obtain ⟨ad1233, e1233, hx1233_0⟩ := Kd.at_int (Kd.R_reads' HO1229.out).2.2 0 p1233 q1233; cases e1233; have qi1233 : (0 < t1227.length) = True := eq_true (by omega); (try rw [show ((0 : Int)).toNat = 0 from rfl] at hx1233_0); (try rw [Addr.add_zero'] at hx1233_0); have hn1233_0 : ad1233.block ≠ gb1232 := Kd.own_blk (Kd.R_ne HO1229.out BK1232.out (by decide)); replace hx1233_0 := (cell_put7 (p := gb1232) (by first | (rw [add_block]; exact hn1233_0) | (show (Addr.add _ _).block ≠ _; rw [add_block]; exact hn1233_0) | exact hn1233_0) t1231).trans hx1233_0; clear hn1233_0; replace p1233 := eq_true p1233; replace q1233 := eq_true q1233; have p1234 : 0 ≤ (1 : Int) := (by omega); have q1234 : 1 < (t1227.length : Int) := of_decide_eq_true (by first | (with_reducible assumption) | assumption); obtain ⟨ad1234, e1234, hx1234_0⟩ := Kd.at_int (Kd.R_reads' HO1229.out).2.2 1 p1234 q1234; obtain rfl : ad1233 = ad1234 := (by injection e1234); (try simp only [show (1 : Int).toNat = 1 from rfl, Nat.reduceMul, Nat.reduceEqDiff, Go.Addr.add, ↓reduceIte] at hx1234_0); have qi1234 : (1 < t1227.length) = True := eq_true (by omega); (try rw [show ((1 : Int)).toNat = 1 from rfl] at hx1234_0); have hn1234_0 : ad1233.block ≠ gb1232 := Kd.own_blk (Kd.R_ne HO1229.out BK1232.out (by decide)); replace hx1234_0 := (cell_put7 (p := gb1232) (by first | (rw [add_block]; exact hn1234_0) | (show (Addr.add _ _).block ≠ _; rw [add_block]; exact hn1234_0) | exact hn1234_0) t1231).trans hx1234_0; clear hn1234_0; replace p1234 := eq_true p1234; replace q1234 := eq_true q1234))
            go_ret
            exact ⟨by first | rfl | (simp [errW_none, errW_some] <;> rfl) | (simp [*, errW_none, errW_some] <;> rfl), by repeat (first | (with_reducible first | exact HB.out | apply below_alloc | apply pw_below_drewN | apply below_drew1 | refine below_set ?_ GE1232.out) | exact HB.out)⟩
        · rw [if_neg c8] at H
          exact absurd H (by simp)
      · rw [if_neg c7] at H
        have c7b0 : ((rd t1227 0) == 242) = false := beq_eq_false_iff_ne.mpr c7
        have c7b1 : ((rd t1227 0) != 242) = true := bne_iff_ne.mpr c7
        obtain rfl := Option.some.inj H
        go_enter Try.func71, Try.ntmps71
        go_wp2_with (first | ((with_reducible refine gate_callee (f := 69) rfl ?_); refine goesL_ (some 3) rfl rfl Try.func69 (by kernel_rfl) rfl #[.int .i64 (-1)] rfl (by (try simp only [List.map_toArray, List.map_cons, List.map_nil]); first | done | rfl | (simp only [List.length_drop, List.length_take]; rfl)) ?_; (with_reducible refine (scalar_Int.calls k (-1) t1226 _ A1.out).mono ?_); rintro e w48 ⟨rfl, hb⟩; refine ⟨_, rfl, ?_⟩; have n0_ := Aside0.mk (below_step (by repeat (first | (with_reducible first | exact HB.out | apply below_alloc | apply pw_below_drewN | apply below_drew1) | exact HB.out)) hb); clear HB; have HB := n0_; clear n0_; (try clear hb); (try clear hb2); (try clear hk); (try clear hi)) | ((with_reducible refine gate_callee (f := 89) rfl ?_); refine goesL_ (some 4) rfl rfl Try.func89 (by kernel_rfl) rfl #[.agg (sv t1226)] rfl (by (try simp only [List.map_toArray, List.map_cons, List.map_nil]); first | done | rfl | (simp only [List.length_drop, List.length_take]; rfl)) ?_; (with_reducible refine (scalar_Bytes.calls k t1226 t1227 _ A2.out).mono ?_); rintro e w49 ⟨v1228, rfl, ho0, hb⟩; refine ⟨_, rfl, ?_⟩; have n0_ := Aside0.mk (Kd.R_lower ho0 (below_size (by repeat (first | (with_reducible first | exact HB.out | apply below_alloc | apply pw_below_drewN | apply below_drew1) | exact HB.out)))); have n1_ := Aside0.mk (below_step (by repeat (first | (with_reducible first | exact HB.out | apply below_alloc | apply pw_below_drewN | apply below_drew1) | exact HB.out)) hb); clear HB; have HO1229 := n0_; have HB := n1_; clear n0_ n1_; (try clear hb); (try clear hb2); (try clear hk); (try clear hi); (try clear ho0)) | ((with_reducible refine gate_callee (f := 69) rfl ?_); refine goesL_ (some 5) rfl rfl Try.func69 (by kernel_rfl) rfl #[.int .i64 1] rfl (by (try simp only [List.map_toArray, List.map_cons, List.map_nil]); first | done | rfl | (simp only [List.length_drop, List.length_take]; rfl)) ?_; (with_reducible refine (scalar_Int.calls k 1 t1230 _ A3.out).mono ?_); rintro e w50 ⟨rfl, hb⟩; refine ⟨_, rfl, ?_⟩; have n0_ := Aside0.mk (Kd.R_below (by (with_reducible repeat (first | apply Kd.R_alloc | apply Kd.R_drewN | apply Kd.R_drew)); exact HO1229.out) hb); have n1_ := Aside0.mk (below_step (by repeat (first | (with_reducible first | exact HB.out | apply below_alloc | apply pw_below_drewN | apply below_drew1) | exact HB.out)) hb); clear HO1229; clear HB; have HO1229 := n0_; have HB := n1_; clear n0_ n1_; (try clear hb); (try clear hb2); (try clear hk); (try clear hi)) | ((with_reducible refine gate_callee (f := 74) rfl ?_); refine goesL_ (some 6) rfl rfl Try.func74 (by kernel_rfl) rfl #[.agg (sv t1230)] rfl (by (try simp only [List.map_toArray, List.map_cons, List.map_nil]); first | done | rfl | (simp only [List.length_drop, List.length_take]; rfl)) ?_; (with_reducible refine (scalar_Half.calls k t1230 t1231 _ A4.out).mono ?_); rintro e w51 ⟨rfl, hb⟩; refine ⟨_, rfl, ?_⟩; have n0_ := Aside0.mk (Kd.R_below (by (with_reducible repeat (first | apply Kd.R_alloc | apply Kd.R_drewN | apply Kd.R_drew)); exact HO1229.out) hb); have n1_ := Aside0.mk (below_step (by repeat (first | (with_reducible first | exact HB.out | apply below_alloc | apply pw_below_drewN | apply below_drew1) | exact HB.out)) hb); clear HO1229; clear HB; have HO1229 := n0_; have HB := n1_; clear n0_ n1_; (try clear hb); (try clear hb2); (try clear hk); (try clear hi)) | ((with_reducible refine gate_dst (N := 2) rfl ?_); refine box_event ?hg (N := 2) ?hd (cs := zv) (t := 73) ?hr ?_; (case hd => rfl); (case hg => rfl); (case hr => first | (go_simp; done) | (go_simp; rfl)); intro gb1232 hg w52 hbox hb; have n0_ := Aside0.mk (Kd.R_below (by (with_reducible repeat (first | apply Kd.R_alloc | apply Kd.R_drewN | apply Kd.R_drew)); exact HO1229.out) hb); have n1_ := Aside0.mk (below_step (by repeat (first | (with_reducible first | exact HB.out | apply below_alloc | apply pw_below_drewN | apply below_drew1) | exact HB.out)) hb); have n2_ := Aside0.mk (hbox); have n3_ := Aside0.mk ((by rw [hg]; exact (below_size (by repeat (first | (with_reducible first | exact HB.out | apply below_alloc | apply pw_below_drewN | apply below_drew1) | exact HB.out))) : w.heap.size ≤ gb1232)); have n4_ := Aside0.mk ((by rw [hg]; exact (below_size (by repeat (first | (with_reducible first | exact HB.out | apply below_alloc | apply pw_below_drewN | apply below_drew1) | exact HB.out))) : w.heap.size ≤ gb1232)); clear HO1229; clear HB; have HO1229 := n0_; have HB := n1_; have BK1232 := n2_; have GW1232 := n3_; have GE1232 := n4_; clear n0_ n1_ n2_ n3_ n4_; clear hb hbox hg; obtain ⟨hcz53_0, hcz53_0_c1, hcz53_0_c2, hcz53_0_c3, hcz53_0_c4, hcz53_0_c5, hcz53_0_c6⟩ := c7_of (a := z7) BK1232.out rfl; obtain ⟨hfz53_0, hfz53_0_c1, hfz53_0_c2, hfz53_0_c3, hfz53_0_c4, hfz53_0_c5, hfz53_0_c6⟩ := fz7 BK1232.out; obtain ⟨Ao54, co54, eo54⟩ := Kd.R_slice HO1229.out; subst eo54; have p1233 : 0 ≤ (0 : Int) := (by omega); have q1233 : 0 < (t1227.length : Int) := of_decide_eq_true (by first | (with_reducible assumption) | assumption); obtain ⟨ad1233, e1233, hx1233_0⟩ := Kd.at_int (Kd.R_reads' HO1229.out).2.2 0 p1233 q1233; cases e1233; have qi1233 : (0 < t1227.length) = True := eq_true (by omega); (try rw [show ((0 : Int)).toNat = 0 from rfl] at hx1233_0); (try rw [Addr.add_zero'] at hx1233_0); have hn1233_0 : ad1233.block ≠ gb1232 := Kd.own_blk (Kd.R_ne HO1229.out BK1232.out (by decide)); replace hx1233_0 := (cell_put7 (p := gb1232) (by first | (rw [add_block]; exact hn1233_0) | (show (Addr.add _ _).block ≠ _; rw [add_block]; exact hn1233_0) | exact hn1233_0) t1231).trans hx1233_0; clear hn1233_0; replace p1233 := eq_true p1233; replace q1233 := eq_true q1233))
        go_ret
        exact ⟨by first | rfl | (simp [errW_none, errW_some] <;> rfl) | (simp [*, errW_none, errW_some] <;> rfl), by repeat (first | (with_reducible first | exact HB.out | apply below_alloc | apply pw_below_drewN | apply below_drew1 | refine below_set ?_ GE1232.out) | exact HB.out)⟩
    · rw [if_neg c6] at H
      exact absurd H (by simp)
  · rw [if_neg c5] at H
    have c5b0 : ((t1227.length : Int) == 57) = false := beq_eq_false_iff_ne.mpr c5
    have c5b1 : ((t1227.length : Int) != 57) = true := bne_iff_ne.mpr c5
    obtain rfl := Option.some.inj H
    go_enter Try.func71, Try.ntmps71
    go_wp2_with (first | ((with_reducible refine gate_callee (f := 69) rfl ?_); refine goesL_ (some 3) rfl rfl Try.func69 (by kernel_rfl) rfl #[.int .i64 (-1)] rfl (by (try simp only [List.map_toArray, List.map_cons, List.map_nil]); first | done | rfl | (simp only [List.length_drop, List.length_take]; rfl)) ?_; (with_reducible refine (scalar_Int.calls k (-1) t1226 _ A1.out).mono ?_); rintro e w55 ⟨rfl, hb⟩; refine ⟨_, rfl, ?_⟩; have n0_ := Aside0.mk (below_step (by repeat (first | (with_reducible first | exact HB.out | apply below_alloc | apply pw_below_drewN | apply below_drew1) | exact HB.out)) hb); clear HB; have HB := n0_; clear n0_; (try clear hb); (try clear hb2); (try clear hk); (try clear hi)) | ((with_reducible refine gate_callee (f := 89) rfl ?_); refine goesL_ (some 4) rfl rfl Try.func89 (by kernel_rfl) rfl #[.agg (sv t1226)] rfl (by (try simp only [List.map_toArray, List.map_cons, List.map_nil]); first | done | rfl | (simp only [List.length_drop, List.length_take]; rfl)) ?_; (with_reducible refine (scalar_Bytes.calls k t1226 t1227 _ A2.out).mono ?_); rintro e w56 ⟨v1228, rfl, ho0, hb⟩; refine ⟨_, rfl, ?_⟩; have n0_ := Aside0.mk (Kd.R_lower ho0 (below_size (by repeat (first | (with_reducible first | exact HB.out | apply below_alloc | apply pw_below_drewN | apply below_drew1) | exact HB.out)))); have n1_ := Aside0.mk (below_step (by repeat (first | (with_reducible first | exact HB.out | apply below_alloc | apply pw_below_drewN | apply below_drew1) | exact HB.out)) hb); clear HB; have HO1229 := n0_; have HB := n1_; clear n0_ n1_; (try clear hb); (try clear hb2); (try clear hk); (try clear hi); (try clear ho0)) | ((with_reducible refine gate_callee (f := 69) rfl ?_); refine goesL_ (some 5) rfl rfl Try.func69 (by kernel_rfl) rfl #[.int .i64 1] rfl (by (try simp only [List.map_toArray, List.map_cons, List.map_nil]); first | done | rfl | (simp only [List.length_drop, List.length_take]; rfl)) ?_; (with_reducible refine (scalar_Int.calls k 1 t1230 _ A3.out).mono ?_); rintro e w57 ⟨rfl, hb⟩; refine ⟨_, rfl, ?_⟩; have n0_ := Aside0.mk (Kd.R_below (by (with_reducible repeat (first | apply Kd.R_alloc | apply Kd.R_drewN | apply Kd.R_drew)); exact HO1229.out) hb); have n1_ := Aside0.mk (below_step (by repeat (first | (with_reducible first | exact HB.out | apply below_alloc | apply pw_below_drewN | apply below_drew1) | exact HB.out)) hb); clear HO1229; clear HB; have HO1229 := n0_; have HB := n1_; clear n0_ n1_; (try clear hb); (try clear hb2); (try clear hk); (try clear hi)) | ((with_reducible refine gate_callee (f := 74) rfl ?_); refine goesL_ (some 6) rfl rfl Try.func74 (by kernel_rfl) rfl #[.agg (sv t1230)] rfl (by (try simp only [List.map_toArray, List.map_cons, List.map_nil]); first | done | rfl | (simp only [List.length_drop, List.length_take]; rfl)) ?_; (with_reducible refine (scalar_Half.calls k t1230 t1231 _ A4.out).mono ?_); rintro e w58 ⟨rfl, hb⟩; refine ⟨_, rfl, ?_⟩; have n0_ := Aside0.mk (Kd.R_below (by (with_reducible repeat (first | apply Kd.R_alloc | apply Kd.R_drewN | apply Kd.R_drew)); exact HO1229.out) hb); have n1_ := Aside0.mk (below_step (by repeat (first | (with_reducible first | exact HB.out | apply below_alloc | apply pw_below_drewN | apply below_drew1) | exact HB.out)) hb); clear HO1229; clear HB; have HO1229 := n0_; have HB := n1_; clear n0_ n1_; (try clear hb); (try clear hb2); (try clear hk); (try clear hi)) | ((with_reducible refine gate_dst (N := 2) rfl ?_); refine box_event ?hg (N := 2) ?hd (cs := zv) (t := 73) ?hr ?_; (case hd => rfl); (case hg => rfl); (case hr => first | (go_simp; done) | (go_simp; rfl)); intro gb1232 hg w59 hbox hb; have n0_ := Aside0.mk (Kd.R_below (by (with_reducible repeat (first | apply Kd.R_alloc | apply Kd.R_drewN | apply Kd.R_drew)); exact HO1229.out) hb); have n1_ := Aside0.mk (below_step (by repeat (first | (with_reducible first | exact HB.out | apply below_alloc | apply pw_below_drewN | apply below_drew1) | exact HB.out)) hb); have n2_ := Aside0.mk (hbox); have n3_ := Aside0.mk ((by rw [hg]; exact (below_size (by repeat (first | (with_reducible first | exact HB.out | apply below_alloc | apply pw_below_drewN | apply below_drew1) | exact HB.out))) : w.heap.size ≤ gb1232)); have n4_ := Aside0.mk ((by rw [hg]; exact (below_size (by repeat (first | (with_reducible first | exact HB.out | apply below_alloc | apply pw_below_drewN | apply below_drew1) | exact HB.out))) : w.heap.size ≤ gb1232)); clear HO1229; clear HB; have HO1229 := n0_; have HB := n1_; have BK1232 := n2_; have GW1232 := n3_; have GE1232 := n4_; clear n0_ n1_ n2_ n3_ n4_; clear hb hbox hg; obtain ⟨hcz60_0, hcz60_0_c1, hcz60_0_c2, hcz60_0_c3, hcz60_0_c4, hcz60_0_c5, hcz60_0_c6⟩ := c7_of (a := z7) BK1232.out rfl; obtain ⟨hfz60_0, hfz60_0_c1, hfz60_0_c2, hfz60_0_c3, hfz60_0_c4, hfz60_0_c5, hfz60_0_c6⟩ := fz7 BK1232.out; obtain ⟨Ao61, co61, eo61⟩ := Kd.R_slice HO1229.out; subst eo61))
    go_ret
    exact ⟨by first | rfl | (simp [errW_none, errW_some] <;> rfl) | (simp [*, errW_none, errW_some] <;> rfl), by repeat (first | (with_reducible first | exact HB.out | apply below_alloc | apply pw_below_drewN | apply below_drew1 | refine below_set ?_ GE1232.out) | exact HB.out)⟩
end Go.Proofs.Ytdaehflffecllaa.N
namespace Go.Proofs.Ytdaehflffecllaa.N
open Go.RowKit Go.Proofs.YtdaehflffecllaaW.PrintWords Go.Proofs.YtdaehflffecllaaW.PrintLast Go.Proofs.YtdaehflffecllaaW.PrintMore
attribute [local go_sem] max2_int min2_int max_two min_two max_three min_three max_four min_four   -- for this text's walks alone
set_option linter.unusedVariables false
set_option linter.unusedSimpArgs false
def scalar_Decode.j0 : Nat → List Int → Bool → Option (List Int × Int)
  | 0, _, _ => none
  | k + 1, x0, x12 => if x12 = true then (some (z7, 11)) else ((number_Of.f k x0).bind fun t1461 => ((scalar_order.f k).bind fun t1464 => ((number_Compare.f k t1461 t1464).bind fun t1467 => (if t1467 ≥ 0 then (some (z7, 14)) else ((scalar_reduce.f k t1461).bind fun t1468 => (some (t1468, 0)))))))
def scalar_Decode.f (k : Nat) (l0 : List Int) : Option (List Int × Int) := if (l0.length : Int) = 57 then (scalar_Decode.j0 k l0 false) else (scalar_Decode.j0 k l0 ((l0.length : Int) != 56))
set_option maxHeartbeats 8000000 in
set_option maxRecDepth 100000 in
theorem scalar_Decode.calls (k : Nat) (A0 : Option Addr) (c0 : Nat) (l0 : List Int) (r1 : List Int) (r2 : Int) (w : World) (hr0 : Kd.C (Kd.int .u8) w A0 l0.length l0) (hc0 : l0.length ≤ c0) (h : scalar_Decode.f k l0 = some (r1, r2)) :
    Calls Try.prog 82 #[.slice A0 l0.length c0] w fun e w' => e = .returned (.tuple #[.agg (sv r1), .int .i64 r2]) ∧ Below w.heap.size w w' := by
  have hu73 := Try.underlying73
  have HR0 := Aside0.mk hr0
  have HC0 := Aside0.mk hc0
  clear hr0 hc0
  have HB := Aside0.mk (Below.refl w.heap.size w)
  have H : (if (l0.length : Int) = 57 then (scalar_Decode.j0 k l0 false) else (scalar_Decode.j0 k l0 ((l0.length : Int) != 56))) = some (r1, r2) := h
  clear h
  have HC2 := Aside0.mk H
  clear H
  go_enter Try.func82, Try.ntmps82
  go_upto_region 1 with (first | ((with_reducible refine gate_dst (N := 2) rfl ?_); (try (refine gate_guard (by rfl) ?_; dsimp only)); refine box_event ?hg (N := 2) ?hd (cs := zv) (t := 73) ?hr ?_; (case hd => rfl); (case hg => rfl); (case hr => first | (go_simp; done) | (go_simp; rfl)); intro gb1460 hg w3 hbox hb; have n0_ := Aside0.mk (below_step (by repeat (first | (with_reducible first | exact HB.out | apply below_alloc | apply pw_below_drewN | apply below_drew1) | exact HB.out)) hb); have n1_ := Aside0.mk (hbox); have n2_ := Aside0.mk ((by rw [hg]; exact (below_size (by repeat (first | (with_reducible first | exact HB.out | apply below_alloc | apply pw_below_drewN | apply below_drew1) | exact HB.out))) : w.heap.size ≤ gb1460)); have n3_ := Aside0.mk ((by rw [hg]; exact (below_size (by repeat (first | (with_reducible first | exact HB.out | apply below_alloc | apply pw_below_drewN | apply below_drew1) | exact HB.out))) : w.heap.size ≤ gb1460)); clear HB; have HB := n0_; have BK1460 := n1_; have GW1460 := n2_; have GE1460 := n3_; clear n0_ n1_ n2_ n3_; clear hb hbox hg))
  (try simp only [Act.put, List.setIfInBounds_toArray, List.set_cons_zero, List.set_cons_succ])
  go_cut [12] (fun v12 wc => ∃ (kq : Nat) (x12_1 : Bool), v12 = .bool x12_1 ∧ Aside0 (scalar_Decode.j0 kq l0 x12_1 = some (r1, r2)) ∧ Aside0 (kq ≤ k) ∧ Aside0 (wc.heap[gb1460]? = some (.cells zv 73 (0, 0))) ∧ Aside0 (Below w.heap.size w wc))
  case first =>
    have H := HC2.out
    clear HC2
    by_cases c4 : (l0.length : Int) = 57
    · rw [if_pos c4] at H
      have c4b0 : ((l0.length : Int) == 57) = true := beq_iff_eq.mpr c4
      have c4b1 : ((l0.length : Int) != 57) = false := bne_eq_false_iff_eq.mpr c4
      clear c4
      (first | rw [c4b0] | (simp only [i64_w, i32_w]; rw [c4b0]) | skip)
      have H' := Aside0.mk H
      clear H
      go_wp2
      go_meet
      case rel => exact ⟨_, (false), (by first | rfl | (simp; done) | (simp [*]; done)), H', ⟨by first | omega | exact Nat.le_refl _⟩, ⟨by (with_reducible repeat (first | refine blk_drewN ?_ _ | refine blk_drew ?_ | refine blk_alloc ?_ _)); exact BK1460.out⟩, ⟨by repeat (first | (with_reducible first | exact HB.out | apply below_alloc | apply pw_below_drewN | apply below_drew1 | refine below_set ?_ GE1460.out) | exact HB.out)⟩⟩
    · rw [if_neg c4] at H
      have c4b0 : ((l0.length : Int) == 57) = false := beq_eq_false_iff_ne.mpr c4
      have c4b1 : ((l0.length : Int) != 57) = true := bne_iff_ne.mpr c4
      (first | rw [c4b0] | (simp only [i64_w, i32_w]; rw [c4b0]) | skip)
      have H' := Aside0.mk H
      clear H
      go_wp2
      go_meet
      case rel => exact ⟨_, (((l0.length : Int) != 56)), (by first | rfl | (simp; done) | (simp [*]; done)), H', ⟨by first | omega | exact Nat.le_refl _⟩, ⟨by (with_reducible repeat (first | refine blk_drewN ?_ _ | refine blk_drew ?_ | refine blk_alloc ?_ _)); exact BK1460.out⟩, ⟨by repeat (first | (with_reducible first | exact HB.out | apply below_alloc | apply pw_below_drewN | apply below_drew1 | refine below_set ?_ GE1460.out) | exact HB.out)⟩⟩
  case rest =>
    clear HC2
    try clear p2
    try clear c4
    try clear c4b0
    try clear c4b1
    obtain ⟨kq, x12_1, rfl, HA, HJ1, BK1460, HB⟩ := hcut
    cases kq with
    | zero => exact absurd HA.out (by simp [scalar_Decode.j0])
    | succ kj1 =>
      have H := HA.out
      clear HA
      simp only [scalar_Decode.j0] at H
      by_cases c5 : x12_1 = true
      · subst c5
        have H1 : (some (z7, 11)) = some (r1, r2) := by rw [if_pos rfl] at H; exact H
        clear H
        have H := H1
        clear H1
        simp only [Option.some.injEq, Prod.mk.injEq] at H
        obtain ⟨rfl, rfl⟩ := H
        obtain ⟨hcz6_0, hcz6_0_c1, hcz6_0_c2, hcz6_0_c3, hcz6_0_c4, hcz6_0_c5, hcz6_0_c6⟩ := c7_of (a := z7) BK1460.out rfl
        obtain ⟨hfz6_0, hfz6_0_c1, hfz6_0_c2, hfz6_0_c3, hfz6_0_c4, hfz6_0_c5, hfz6_0_c6⟩ := fz7 BK1460.out
        go_wp2
        refine bodyPost_ret (results_ct rfl _ _ gb1460 73 zv (0, 0) _ rfl (by (with_reducible repeat (first | refine blk_drewN ?_ _ | refine blk_drew ?_ | refine blk_alloc ?_ _)); refine blk_put7z ?_; (with_reducible repeat (first | refine blk_drewN ?_ _ | refine blk_drew ?_ | refine blk_alloc ?_ _)); exact BK1460.out) Try.underlying73 rfl (by kernel_rfl)) rfl ?_
        exact ⟨by first | rfl | (simp [errW_none, errW_some] <;> rfl) | (simp [*, errW_none, errW_some] <;> rfl), by repeat (first | (with_reducible first | exact HB.out | apply below_alloc | apply pw_below_drewN | apply below_drew1 | refine below_set ?_ GE1460.out) | exact HB.out)⟩
      · replace c5 := Bool.eq_false_iff.mpr c5
        subst c5
        have H1 : ((number_Of.f kj1 l0).bind fun t1461 => ((scalar_order.f kj1).bind fun t1464 => ((number_Compare.f kj1 t1461 t1464).bind fun t1467 => (if t1467 ≥ 0 then (some (z7, 14)) else ((scalar_reduce.f kj1 t1461).bind fun t1468 => (some (t1468, 0))))))) = some (r1, r2) := by rw [if_neg (show ¬ (false = true) by decide)] at H; exact H
        clear H
        have H := H1
        clear H1
        replace H := Option.bind_eq_some_iff.mp H
        obtain ⟨t1461, A70, H⟩ := H
        replace H : ((scalar_order.f kj1).bind fun t1464 => ((number_Compare.f kj1 t1461 t1464).bind fun t1467 => (if t1467 ≥ 0 then (some (z7, 14)) else ((scalar_reduce.f kj1 t1461).bind fun t1468 => (some (t1468, 0)))))) = some (r1, r2) := H
        have A7 := Aside0.mk A70
        clear A70
        replace H := Option.bind_eq_some_iff.mp H
        obtain ⟨t1464, A80, H⟩ := H
        replace H : ((number_Compare.f kj1 t1461 t1464).bind fun t1467 => (if t1467 ≥ 0 then (some (z7, 14)) else ((scalar_reduce.f kj1 t1461).bind fun t1468 => (some (t1468, 0))))) = some (r1, r2) := H
        have A8 := Aside0.mk A80
        clear A80
        replace H := Option.bind_eq_some_iff.mp H
        obtain ⟨t1467, A90, H⟩ := H
        replace H : (if t1467 ≥ 0 then (some (z7, 14)) else ((scalar_reduce.f kj1 t1461).bind fun t1468 => (some (t1468, 0)))) = some (r1, r2) := H
        have A9 := Aside0.mk A90
        clear A90
        by_cases c10 : t1467 ≥ 0
        · rw [if_pos c10] at H
          have c10b0 : decide (0 ≤ t1467) = true := decide_eq_true c10
          clear c10
          simp only [Option.some.injEq, Prod.mk.injEq] at H
          obtain ⟨rfl, rfl⟩ := H
          go_wp2_with (first | ((with_reducible refine gate_callee (f := 36) rfl ?_); refine goesL_ (some 15) rfl rfl Try.func36 (by kernel_rfl) rfl #[.slice A0 l0.length c0] rfl (by (try simp only [List.map_toArray, List.map_cons, List.map_nil]); first | done | rfl | (simp only [List.length_drop, List.length_take]; rfl)) ?_; (with_reducible refine (number_Of.calls kj1 _ _ l0 t1461 _ ?side1 ?side2 A7.out).mono ?_); (case side1 => repeat (first | exact (Kd.C_below HR0.out HB.out) | (with_reducible refine Kd.C_alloc ?_ _) | (with_reducible refine Kd.C_drewN ?_ _) | (with_reducible refine Kd.C_drew ?_))); (case side2 => exact HC0.out); rintro e w11 ⟨v1462, rfl, ho0, hb⟩; refine ⟨_, rfl, ?_⟩; have n0_ := Aside0.mk (Kd.V_lower (Kd.V_mono (ok' := fun k_ => k_ ≠ gb1460) ho0 (fun k_ hk_ => (Kd.freshB (g := gb1460) (o := .cells zv 73 (0, 0)) (by (with_reducible repeat (first | refine blk_drewN ?_ _ | refine blk_drew ?_ | refine blk_alloc ?_ _)); exact BK1460.out) k_ hk_))) (below_size (by repeat (first | (with_reducible first | exact HB.out | apply below_alloc | apply pw_below_drewN | apply below_drew1 | refine below_set ?_ GE1460.out) | exact HB.out)))); have n1_ := Aside0.mk (blk_below (g := gb1460) (o := .cells zv 73 (0, 0)) (by (with_reducible repeat (first | refine blk_drewN ?_ _ | refine blk_drew ?_ | refine blk_alloc ?_ _)); exact BK1460.out) hb); have n2_ := Aside0.mk (below_step (by repeat (first | (with_reducible first | exact HB.out | apply below_alloc | apply pw_below_drewN | apply below_drew1 | refine below_set ?_ GE1460.out) | exact HB.out)) hb); clear BK1460; clear HB; have HO1463 := n0_; have BK1460 := n1_; have HB := n2_; clear n0_ n1_ n2_; (try clear hb); (try clear hb2); (try clear hk); (try clear hi); (try clear ho0)) | ((with_reducible refine gate_callee (f := 108) rfl ?_); refine goesL_ (some 17) rfl rfl Try.func108 (by kernel_rfl) rfl #[] rfl (by (try simp only [List.map_toArray, List.map_cons, List.map_nil]); first | done | rfl | (simp only [List.length_drop, List.length_take]; rfl)) ?_; (with_reducible refine (scalar_order.calls kj1  t1464 _ A8.out).mono ?_); rintro e w12 ⟨v1465, rfl, ho0, hb⟩; refine ⟨_, rfl, ?_⟩; have n0_ := Aside0.mk (Kd.V_below (by (with_reducible repeat (first | apply Kd.V_alloc | apply Kd.V_drewN | apply Kd.V_drew)); exact HO1463.out) hb); have n1_ := Aside0.mk (Kd.V_lower (Kd.V_mono (ok' := fun k_ => k_ ≠ gb1460) ho0 (fun k_ hk_ => (Kd.freshB (g := gb1460) (o := .cells zv 73 (0, 0)) (by (with_reducible repeat (first | refine blk_drewN ?_ _ | refine blk_drew ?_ | refine blk_alloc ?_ _)); exact BK1460.out) k_ hk_))) (below_size (by repeat (first | (with_reducible first | exact HB.out | apply below_alloc | apply pw_below_drewN | apply below_drew1 | refine below_set ?_ GE1460.out) | exact HB.out)))); have n2_ := Aside0.mk (blk_below (g := gb1460) (o := .cells zv 73 (0, 0)) (by (with_reducible repeat (first | refine blk_drewN ?_ _ | refine blk_drew ?_ | refine blk_alloc ?_ _)); exact BK1460.out) hb); have n3_ := Aside0.mk (below_step (by repeat (first | (with_reducible first | exact HB.out | apply below_alloc | apply pw_below_drewN | apply below_drew1 | refine below_set ?_ GE1460.out) | exact HB.out)) hb); clear HO1463; clear BK1460; clear HB; have HO1463 := n0_; have HO1466 := n1_; have BK1460 := n2_; have HB := n3_; clear n0_ n1_ n2_ n3_; (try clear hb); (try clear hb2); (try clear hk); (try clear hi); (try clear ho0); obtain ⟨Ao13, co13, eo13⟩ := Kd.V_slice HO1463.out; subst eo13; obtain ⟨Ao14, co14, eo14⟩ := Kd.V_slice HO1466.out; subst eo14) | ((with_reducible refine gate_callee (f := 42) rfl ?_); refine goesL_ (some 18) rfl rfl Try.func42 (by kernel_rfl) rfl #[.slice Ao13 t1461.length co13, .slice Ao14 t1464.length co14] rfl (by (try simp only [List.map_toArray, List.map_cons, List.map_nil]); first | done | rfl | (simp only [List.length_drop, List.length_take]; rfl)) ?_; (with_reducible refine (number_Compare.calls kj1 _ _ t1461 _ _ t1464 t1467 _ ?side1 ?side2 ?side3 ?side4 A9.out).mono ?_); (case side1 => repeat (first | exact (Kd.V_reads' HO1463.out).2.2 | (with_reducible refine Kd.C_alloc ?_ _) | (with_reducible refine Kd.C_drewN ?_ _) | (with_reducible refine Kd.C_drew ?_))); (case side2 => exact (Kd.V_reads' HO1463.out).2.1); (case side3 => repeat (first | exact (Kd.V_reads' HO1466.out).2.2 | (with_reducible refine Kd.C_alloc ?_ _) | (with_reducible refine Kd.C_drewN ?_ _) | (with_reducible refine Kd.C_drew ?_))); (case side4 => exact (Kd.V_reads' HO1466.out).2.1); rintro e w15 ⟨rfl, hb⟩; refine ⟨_, rfl, ?_⟩; have n0_ := Aside0.mk (Kd.V_below (by (with_reducible repeat (first | apply Kd.V_alloc | apply Kd.V_drewN | apply Kd.V_drew)); exact HO1463.out) hb); have n1_ := Aside0.mk (Kd.V_below (by (with_reducible repeat (first | apply Kd.V_alloc | apply Kd.V_drewN | apply Kd.V_drew)); exact HO1466.out) hb); have n2_ := Aside0.mk (blk_below (g := gb1460) (o := .cells zv 73 (0, 0)) (by (with_reducible repeat (first | refine blk_drewN ?_ _ | refine blk_drew ?_ | refine blk_alloc ?_ _)); exact BK1460.out) hb); have n3_ := Aside0.mk (below_step (by repeat (first | (with_reducible first | exact HB.out | apply below_alloc | apply pw_below_drewN | apply below_drew1 | refine below_set ?_ GE1460.out) | exact HB.out)) hb); clear HO1463; clear HO1466; clear BK1460; clear HB; have HO1463 := n0_; have HO1466 := n1_; have BK1460 := n2_; have HB := n3_; clear n0_ n1_ n2_ n3_; (try clear hb); (try clear hb2); (try clear hk); (try clear hi); obtain ⟨hcz16_0, hcz16_0_c1, hcz16_0_c2, hcz16_0_c3, hcz16_0_c4, hcz16_0_c5, hcz16_0_c6⟩ := c7_of (a := z7) BK1460.out rfl; obtain ⟨hfz16_0, hfz16_0_c1, hfz16_0_c2, hfz16_0_c3, hfz16_0_c4, hfz16_0_c5, hfz16_0_c6⟩ := fz7 BK1460.out))
          refine bodyPost_ret (results_ct rfl _ _ gb1460 73 zv (0, 0) _ rfl (by (with_reducible repeat (first | refine blk_drewN ?_ _ | refine blk_drew ?_ | refine blk_alloc ?_ _)); refine blk_put7z ?_; (with_reducible repeat (first | refine blk_drewN ?_ _ | refine blk_drew ?_ | refine blk_alloc ?_ _)); exact BK1460.out) Try.underlying73 rfl (by kernel_rfl)) rfl ?_
          exact ⟨by first | rfl | (simp [errW_none, errW_some] <;> rfl) | (simp [*, errW_none, errW_some] <;> rfl), by repeat (first | (with_reducible first | exact HB.out | apply below_alloc | apply pw_below_drewN | apply below_drew1 | refine below_set ?_ GE1460.out) | exact HB.out)⟩
        · rw [if_neg c10] at H
          have c10b0 : decide (0 ≤ t1467) = false := decide_eq_false c10
          clear c10
          replace H := Option.bind_eq_some_iff.mp H
          obtain ⟨t1468, A170, H⟩ := H
          replace H : (some (t1468, 0)) = some (r1, r2) := H
          have A17 := Aside0.mk A170
          clear A170
          simp only [Option.some.injEq, Prod.mk.injEq] at H
          obtain ⟨rfl, rfl⟩ := H
          go_wp2_with (first | ((with_reducible refine gate_callee (f := 36) rfl ?_); refine goesL_ (some 15) rfl rfl Try.func36 (by kernel_rfl) rfl #[.slice A0 l0.length c0] rfl (by (try simp only [List.map_toArray, List.map_cons, List.map_nil]); first | done | rfl | (simp only [List.length_drop, List.length_take]; rfl)) ?_; (with_reducible refine (number_Of.calls kj1 _ _ l0 t1461 _ ?side1 ?side2 A7.out).mono ?_); (case side1 => repeat (first | exact (Kd.C_below HR0.out HB.out) | (with_reducible refine Kd.C_alloc ?_ _) | (with_reducible refine Kd.C_drewN ?_ _) | (with_reducible refine Kd.C_drew ?_))); (case side2 => exact HC0.out); rintro e w18 ⟨v1462, rfl, ho0, hb⟩; refine ⟨_, rfl, ?_⟩; have n0_ := Aside0.mk (Kd.V_lower (Kd.V_mono (ok' := fun k_ => k_ ≠ gb1460) ho0 (fun k_ hk_ => (Kd.freshB (g := gb1460) (o := .cells zv 73 (0, 0)) (by (with_reducible repeat (first | refine blk_drewN ?_ _ | refine blk_drew ?_ | refine blk_alloc ?_ _)); exact BK1460.out) k_ hk_))) (below_size (by repeat (first | (with_reducible first | exact HB.out | apply below_alloc | apply pw_below_drewN | apply below_drew1 | refine below_set ?_ GE1460.out) | exact HB.out)))); have n1_ := Aside0.mk (blk_below (g := gb1460) (o := .cells zv 73 (0, 0)) (by (with_reducible repeat (first | refine blk_drewN ?_ _ | refine blk_drew ?_ | refine blk_alloc ?_ _)); exact BK1460.out) hb); have n2_ := Aside0.mk (below_step (by repeat (first | (with_reducible first | exact HB.out | apply below_alloc | apply pw_below_drewN | apply below_drew1 | refine below_set ?_ GE1460.out) | exact HB.out)) hb); clear BK1460; clear HB; have HO1463 := n0_; have BK1460 := n1_; have HB := n2_; clear n0_ n1_ n2_; (try clear hb); (try clear hb2); (try clear hk); (try clear hi); (try clear ho0)) | ((with_reducible refine gate_callee (f := 108) rfl ?_); refine goesL_ (some 17) rfl rfl Try.func108 (by kernel_rfl) rfl #[] rfl (by (try simp only [List.map_toArray, List.map_cons, List.map_nil]); first | done | rfl | (simp only [List.length_drop, List.length_take]; rfl)) ?_; (with_reducible refine (scalar_order.calls kj1  t1464 _ A8.out).mono ?_); rintro e w19 ⟨v1465, rfl, ho0, hb⟩; refine ⟨_, rfl, ?_⟩; have n0_ := Aside0.mk (Kd.V_below (by (with_reducible repeat (first | apply Kd.V_alloc | apply Kd.V_drewN | apply Kd.V_drew)); exact HO1463.out) hb); have n1_ := Aside0.mk (Kd.V_lower (Kd.V_mono (ok' := fun k_ => k_ ≠ gb1460) ho0 (fun k_ hk_ => (Kd.freshB (g := gb1460) (o := .cells zv 73 (0, 0)) (by (with_reducible repeat (first | refine blk_drewN ?_ _ | refine blk_drew ?_ | refine blk_alloc ?_ _)); exact BK1460.out) k_ hk_))) (below_size (by repeat (first | (with_reducible first | exact HB.out | apply below_alloc | apply pw_below_drewN | apply below_drew1 | refine below_set ?_ GE1460.out) | exact HB.out)))); have n2_ := Aside0.mk (blk_below (g := gb1460) (o := .cells zv 73 (0, 0)) (by (with_reducible repeat (first | refine blk_drewN ?_ _ | refine blk_drew ?_ | refine blk_alloc ?_ _)); exact BK1460.out) hb); have n3_ := Aside0.mk (below_step (by repeat (first | (with_reducible first | exact HB.out | apply below_alloc | apply pw_below_drewN | apply below_drew1 | refine below_set ?_ GE1460.out) | exact HB.out)) hb); clear HO1463; clear BK1460; clear HB; have HO1463 := n0_; have HO1466 := n1_; have BK1460 := n2_; have HB := n3_; clear n0_ n1_ n2_ n3_; (try clear hb); (try clear hb2); (try clear hk); (try clear hi); (try clear ho0); obtain ⟨Ao20, co20, eo20⟩ := Kd.V_slice HO1463.out; subst eo20; obtain ⟨Ao21, co21, eo21⟩ := Kd.V_slice HO1466.out; subst eo21) | ((with_reducible refine gate_callee (f := 42) rfl ?_); refine goesL_ (some 18) rfl rfl Try.func42 (by kernel_rfl) rfl #[.slice Ao20 t1461.length co20, .slice Ao21 t1464.length co21] rfl (by (try simp only [List.map_toArray, List.map_cons, List.map_nil]); first | done | rfl | (simp only [List.length_drop, List.length_take]; rfl)) ?_; (with_reducible refine (number_Compare.calls kj1 _ _ t1461 _ _ t1464 t1467 _ ?side1 ?side2 ?side3 ?side4 A9.out).mono ?_); (case side1 => repeat (first | exact (Kd.V_reads' HO1463.out).2.2 | (with_reducible refine Kd.C_alloc ?_ _) | (with_reducible refine Kd.C_drewN ?_ _) | (with_reducible refine Kd.C_drew ?_))); (case side2 => exact (Kd.V_reads' HO1463.out).2.1); (case side3 => repeat (first | exact (Kd.V_reads' HO1466.out).2.2 | (with_reducible refine Kd.C_alloc ?_ _) | (with_reducible refine Kd.C_drewN ?_ _) | (with_reducible refine Kd.C_drew ?_))); (case side4 => exact (Kd.V_reads' HO1466.out).2.1); rintro e w22 ⟨rfl, hb⟩; refine ⟨_, rfl, ?_⟩; have n0_ := Aside0.mk (Kd.V_below (by (with_reducible repeat (first | apply Kd.V_alloc | apply Kd.V_drewN | apply Kd.V_drew)); exact HO1463.out) hb); have n1_ := Aside0.mk (Kd.V_below (by (with_reducible repeat (first | apply Kd.V_alloc | apply Kd.V_drewN | apply Kd.V_drew)); exact HO1466.out) hb); have n2_ := Aside0.mk (blk_below (g := gb1460) (o := .cells zv 73 (0, 0)) (by (with_reducible repeat (first | refine blk_drewN ?_ _ | refine blk_drew ?_ | refine blk_alloc ?_ _)); exact BK1460.out) hb); have n3_ := Aside0.mk (below_step (by repeat (first | (with_reducible first | exact HB.out | apply below_alloc | apply pw_below_drewN | apply below_drew1 | refine below_set ?_ GE1460.out) | exact HB.out)) hb); clear HO1463; clear HO1466; clear BK1460; clear HB; have HO1463 := n0_; have HO1466 := n1_; have BK1460 := n2_; have HB := n3_; clear n0_ n1_ n2_ n3_; (try clear hb); (try clear hb2); (try clear hk); (try clear hi)) | ((with_reducible refine gate_callee (f := 106) rfl ?_); refine goesL_ (some 22) rfl rfl Try.func106 (by kernel_rfl) rfl #[.slice Ao20 t1461.length co20] rfl (by (try simp only [List.map_toArray, List.map_cons, List.map_nil]); first | done | rfl | (simp only [List.length_drop, List.length_take]; rfl)) ?_; (with_reducible refine (scalar_reduce.calls kj1 (fun k_ => k_ ≠ gb1460) _ _ t1461 t1468 _ ?side1 A17.out).mono ?_); (case side1 => exact HO1463.out); rintro e w23 ⟨rfl, hb⟩; refine ⟨_, rfl, ?_⟩; have n0_ := Aside0.mk (Kd.V_below (by (with_reducible repeat (first | apply Kd.V_alloc | apply Kd.V_drewN | apply Kd.V_drew)); exact HO1463.out) hb); have n1_ := Aside0.mk (Kd.V_below (by (with_reducible repeat (first | apply Kd.V_alloc | apply Kd.V_drewN | apply Kd.V_drew)); exact HO1466.out) hb); have n2_ := Aside0.mk (blk_below (g := gb1460) (o := .cells zv 73 (0, 0)) (by (with_reducible repeat (first | refine blk_drewN ?_ _ | refine blk_drew ?_ | refine blk_alloc ?_ _)); exact BK1460.out) hb); have n3_ := Aside0.mk (below_step (by repeat (first | (with_reducible first | exact HB.out | apply below_alloc | apply pw_below_drewN | apply below_drew1 | refine below_set ?_ GE1460.out) | exact HB.out)) hb); clear HO1463; clear HO1466; clear BK1460; clear HB; have HO1463 := n0_; have HO1466 := n1_; have BK1460 := n2_; have HB := n3_; clear n0_ n1_ n2_ n3_; (try clear hb); (try clear hb2); (try clear hk); (try clear hi); obtain ⟨hcz24_0, hcz24_0_c1, hcz24_0_c2, hcz24_0_c3, hcz24_0_c4, hcz24_0_c5, hcz24_0_c6⟩ := c7_of (a := z7) BK1460.out rfl; obtain ⟨hfz24_0, hfz24_0_c1, hfz24_0_c2, hfz24_0_c3, hfz24_0_c4, hfz24_0_c5, hfz24_0_c6⟩ := fz7 BK1460.out))
          refine bodyPost_ret (results_ct rfl _ _ gb1460 73 (sv t1468) (0, 0) _ rfl (by (with_reducible repeat (first | refine blk_drewN ?_ _ | refine blk_drew ?_ | refine blk_alloc ?_ _)); refine blk_put7z ?_; (with_reducible repeat (first | refine blk_drewN ?_ _ | refine blk_drew ?_ | refine blk_alloc ?_ _)); exact BK1460.out) Try.underlying73 rfl (by kernel_rfl)) rfl ?_
          exact ⟨by first | rfl | (simp [errW_none, errW_some] <;> rfl) | (simp [*, errW_none, errW_some] <;> rfl), by repeat (first | (with_reducible first | exact HB.out | apply below_alloc | apply pw_below_drewN | apply below_drew1 | refine below_set ?_ GE1460.out) | exact HB.out)⟩
def scalar_L.f (k : Nat)  : Option (List Int) := (scalar_order.f k).bind fun t1469 => ((number_Bytes.f k t1469 57).bind fun bt1472 => (some bt1472.1))
set_option maxHeartbeats 8000000 in
set_option maxRecDepth 100000 in
theorem scalar_L.calls (k : Nat)  (r : List Int) (w : World) (h : scalar_L.f k  = some r) :
    Calls Try.prog 83 #[] w fun e w' => ∃ v0_ : Value, e = .returned (v0_) ∧ Kd.R (Kd.int .u8) 5 w' w.heap.size (fun _ => True) v0_ r ∧ Below w.heap.size w w' := by
  have HB := Aside0.mk (Below.refl w.heap.size w)
  have H : ((scalar_order.f k).bind fun t1469 => ((number_Bytes.f k t1469 57).bind fun bt1472 => (some bt1472.1))) = some r := h
  clear h
  replace H := Option.bind_eq_some_iff.mp H
  obtain ⟨t1469, A10, H⟩ := H
  replace H : ((number_Bytes.f k t1469 57).bind fun bt1472 => (some bt1472.1)) = some r := H
  have A1 := Aside0.mk A10
  clear A10
  replace H := Option.bind_eq_some_iff.mp H
  obtain ⟨⟨t1472, t1473⟩, A20, H⟩ := H
  replace H : (some t1472) = some r := H
  have A2 := Aside0.mk A20
  clear A20
  obtain rfl := Option.some.inj H
  go_enter Try.func83, Try.ntmps83
  go_wp2_with (first | ((with_reducible refine gate_callee (f := 108) rfl ?_); refine goesL_ (some 4) rfl rfl Try.func108 (by kernel_rfl) rfl #[] rfl (by (try simp only [List.map_toArray, List.map_cons, List.map_nil]); first | done | rfl | (simp only [List.length_drop, List.length_take]; rfl)) ?_; (with_reducible refine (scalar_order.calls k  t1469 _ A1.out).mono ?_); rintro e w3 ⟨v1470, rfl, ho0, hb⟩; refine ⟨_, rfl, ?_⟩; have n0_ := Aside0.mk (Kd.V_lower (Kd.V_mono (ok' := fun k_ => True) ho0 (fun k_ hk_ => trivial)) (below_size (by repeat (first | (with_reducible first | exact HB.out | apply below_alloc | apply pw_below_drewN | apply below_drew1) | exact HB.out)))); have n1_ := Aside0.mk (below_step (by repeat (first | (with_reducible first | exact HB.out | apply below_alloc | apply pw_below_drewN | apply below_drew1) | exact HB.out)) hb); clear HB; have HO1471 := n0_; have HB := n1_; clear n0_ n1_; (try clear hb); (try clear hb2); (try clear hk); (try clear hi); (try clear ho0); obtain ⟨Ao4, co4, eo4⟩ := Kd.V_slice HO1471.out; subst eo4) | ((with_reducible refine gate_callee (f := 59) rfl ?_); refine goesL_ (some 5) rfl rfl Try.func59 (by kernel_rfl) rfl #[.slice Ao4 t1469.length co4, .int .i64 57] rfl (by (try simp only [List.map_toArray, List.map_cons, List.map_nil]); first | done | rfl | (simp only [List.length_drop, List.length_take]; rfl)) ?_; (with_reducible refine (number_Bytes.calls k _ _ t1469 57 t1472 t1473 _ ?side1 ?side2 A2.out).mono ?_); (case side1 => repeat (first | exact (Kd.V_reads' HO1471.out).2.2 | (with_reducible refine Kd.C_alloc ?_ _) | (with_reducible refine Kd.C_drewN ?_ _) | (with_reducible refine Kd.C_drew ?_))); (case side2 => exact (Kd.V_reads' HO1471.out).2.1); rintro e w5 ⟨v1474, rfl, ho0, hb⟩; refine ⟨_, rfl, ?_⟩; have n0_ := Aside0.mk (Kd.V_elder' (by (with_reducible repeat (first | apply Kd.V_alloc | apply Kd.V_drewN | apply Kd.V_drew)); exact HO1471.out) (Kd.R_base ho0) hb); have n1_ := Aside0.mk (Kd.R_lower ho0 (below_size (by repeat (first | (with_reducible first | exact HB.out | apply below_alloc | apply pw_below_drewN | apply below_drew1) | exact HB.out)))); have n2_ := Aside0.mk (below_step (by repeat (first | (with_reducible first | exact HB.out | apply below_alloc | apply pw_below_drewN | apply below_drew1) | exact HB.out)) hb); clear HO1471; clear HB; have HO1471 := n0_; have HO1475 := n1_; have HB := n2_; clear n0_ n1_ n2_; (try clear hb); (try clear hb2); (try clear hk); (try clear hi); (try clear ho0)))
  go_ret
  exact ⟨_, by first | rfl | (simp [errW_none, errW_some] <;> rfl) | (simp [*, errW_none, errW_some] <;> rfl), by (with_reducible repeat (first | apply Kd.R_alloc | apply Kd.R_drewN | apply Kd.R_drew)); exact HO1475.out, by repeat (first | (with_reducible first | exact HB.out | apply below_alloc | apply pw_below_drewN | apply below_drew1) | exact HB.out)⟩
def chicoryref06_Fits.f (k : Nat) (l0 : List Int) : Option (Bool) := (chicoryref06_L.f k).bind fun t1476 => ((chicoryref03_Compare.f k l0 t1476).bind fun t1479 => (some (decide (t1479 < 0))))
set_option maxHeartbeats 8000000 in
set_option maxRecDepth 100000 in
theorem chicoryref06_Fits.calls (k : Nat) (A0 : Option Addr) (c0 : Nat) (l0 : List Int) (r : Bool) (w : World) (hr0 : Kd.C (Kd.int .u8) w A0 l0.length l0) (hc0 : l0.length ≤ c0) (h : chicoryref06_Fits.f k l0 = some r) :
    Calls Try.prog 87 #[.slice A0 l0.length c0] w fun e w' => e = .returned (.bool r) ∧ Below w.heap.size w w' := by
  have HR0 := Aside0.mk hr0
  have HC0 := Aside0.mk hc0
  clear hr0 hc0
  have HB := Aside0.mk (Below.refl w.heap.size w)
  have H : ((chicoryref06_L.f k).bind fun t1476 => ((chicoryref03_Compare.f k l0 t1476).bind fun t1479 => (some (decide (t1479 < 0))))) = some r := h
  clear h
  replace H := Option.bind_eq_some_iff.mp H
  obtain ⟨t1476, A20, H⟩ := H
  replace H : ((chicoryref03_Compare.f k l0 t1476).bind fun t1479 => (some (decide (t1479 < 0)))) = some r := H
  have A2 := Aside0.mk A20
  clear A20
  replace H := Option.bind_eq_some_iff.mp H
  obtain ⟨t1479, A30, H⟩ := H
  replace H : (some (decide (t1479 < 0))) = some r := H
  have A3 := Aside0.mk A30
  clear A30
  obtain rfl := Option.some.inj H
  go_enter Try.func87, Try.ntmps87
  go_wp2_with (first | ((with_reducible refine gate_callee (f := 85) rfl ?_); refine goesL_ (some 4) rfl rfl Try.func85 (by kernel_rfl) rfl #[] rfl (by (try simp only [List.map_toArray, List.map_cons, List.map_nil]); first | done | rfl | (simp only [List.length_drop, List.length_take]; rfl)) ?_; (with_reducible refine (chicoryref06_L.calls k  t1476 _ A2.out).mono ?_); rintro e w4 ⟨v1477, rfl, ho0, hb⟩; refine ⟨_, rfl, ?_⟩; have n0_ := Aside0.mk (Kd.V_lower (Kd.V_mono (ok' := fun k_ => True) ho0 (fun k_ hk_ => trivial)) (below_size (by repeat (first | (with_reducible first | exact HB.out | apply below_alloc | apply pw_below_drewN | apply below_drew1) | exact HB.out)))); have n1_ := Aside0.mk (below_step (by repeat (first | (with_reducible first | exact HB.out | apply below_alloc | apply pw_below_drewN | apply below_drew1) | exact HB.out)) hb); clear HB; have HO1478 := n0_; have HB := n1_; clear n0_ n1_; (try clear hb); (try clear hb2); (try clear hk); (try clear hi); (try clear ho0); obtain ⟨Ao5, co5, eo5⟩ := Kd.V_slice HO1478.out; subst eo5) | ((with_reducible refine gate_callee (f := 43) rfl ?_); refine goesL_ (some 5) rfl rfl Try.func43 (by kernel_rfl) rfl #[.slice A0 l0.length c0, .slice Ao5 t1476.length co5] rfl (by (try simp only [List.map_toArray, List.map_cons, List.map_nil]); first | done | rfl | (simp only [List.length_drop, List.length_take]; rfl)) ?_; (with_reducible refine (chicoryref03_Compare.calls k _ _ l0 _ _ t1476 t1479 _ ?side1 ?side2 ?side3 ?side4 A3.out).mono ?_); (case side1 => repeat (first | exact (Kd.C_below HR0.out HB.out) | (with_reducible refine Kd.C_alloc ?_ _) | (with_reducible refine Kd.C_drewN ?_ _) | (with_reducible refine Kd.C_drew ?_))); (case side2 => exact HC0.out); (case side3 => repeat (first | exact (Kd.V_reads' HO1478.out).2.2 | (with_reducible refine Kd.C_alloc ?_ _) | (with_reducible refine Kd.C_drewN ?_ _) | (with_reducible refine Kd.C_drew ?_))); (case side4 => exact (Kd.V_reads' HO1478.out).2.1); rintro e w6 ⟨rfl, hb⟩; refine ⟨_, rfl, ?_⟩; have n0_ := Aside0.mk (Kd.V_below (by (with_reducible repeat (first | apply Kd.V_alloc | apply Kd.V_drewN | apply Kd.V_drew)); exact HO1478.out) hb); have n1_ := Aside0.mk (below_step (by repeat (first | (with_reducible first | exact HB.out | apply below_alloc | apply pw_below_drewN | apply below_drew1) | exact HB.out)) hb); clear HO1478; clear HB; have HO1478 := n0_; have HB := n1_; clear n0_ n1_; (try clear hb); (try clear hb2); (try clear hk); (try clear hi)))
  go_ret
  exact ⟨by first | rfl | (simp [errW_none, errW_some] <;> rfl) | (simp [*, errW_none, errW_some] <;> rfl), by repeat (first | (with_reducible first | exact HB.out | apply below_alloc | apply pw_below_drewN | apply below_drew1) | exact HB.out)⟩
end Go.Proofs.Ytdaehflffecllaa.N
namespace Go.Proofs.Ytdaehflffecllaa.N
open Go.RowKit Go.Proofs.YtdaehflffecllaaW.PrintWords Go.Proofs.YtdaehflffecllaaW.PrintLast Go.Proofs.YtdaehflffecllaaW.PrintMore
attribute [local go_sem] max2_int min2_int max_two min_two max_three min_three max_four min_four   -- for this text's walks alone
set_option linter.unusedVariables false
set_option linter.unusedSimpArgs false
mutual
def chicorylaw06_ScalarBytes.j0 : Nat → List Int → Int → List Int → Option (Bool)
  | 0, _, _, _ => none
  | k + 1, x0, x4, x1484000 => if (x0.length : Int) = 56 then (chicorylaw06_ScalarBytes.j1 k x0 x4 false x1484000) else (chicorylaw06_ScalarBytes.j1 k x0 x4 ((x0.length : Int) != 57) x1484000)
def chicorylaw06_ScalarBytes.j1 : Nat → List Int → Int → Bool → List Int → Option (Bool)
  | 0, _, _, _, _ => none
  | k + 1, x0, x4, x52, x1484000 => if x52 = true then ((scalar_Zero.f k x1484000).bind fun t1502 => (if t1502 = true then (if x4 = 11 then ((chicorylaw06_awake.f k).bind fun t1503 => (some t1503)) else (some false)) else (some false))) else ((chicoryref06_Fits.f k x0).bind fun t1504 => (if t1504 = true then (if x4 = 0 then ((chicoryref03_Cut.f k x0).bind fun t1505 => ((chicorylaw06_Is.f k x1484000 t1505).bind fun t1508 => (if t1508 = true then ((chicorylaw06_awake.f k).bind fun t1509 => (some t1509)) else (some false)))) else (some false)) else ((scalar_Zero.f k x1484000).bind fun t1510 => (if t1510 = true then (if x4 = 14 then ((chicorylaw06_awake.f k).bind fun t1511 => (some t1511)) else (some false)) else (some false)))))
end
def chicorylaw06_ScalarBytes.f (k : Nat) (l0 : List Int) : Option (Bool) := if (l0.length : Int) > 200 then ((chicorylaw06_awake.f k).bind fun t1480 => (some t1480)) else ((scalar_Decode.f k l0).bind fun bt1481 => ((scalar_Reduce.f k l0).bind fun bt1484 => ((scalar_L.f k).bind fun t1487 => ((chicoryref06_L.f k).bind fun t1490 => ((chicoryref06_Bytes.f k t1490).bind fun t1493 => ((chicorylaw01_Bytes.f k t1487 t1493).bind fun t1496 => (if t1496 = true then (if (l0.length : Int) > 128 then ((scalar_Zero.f k bt1484.1).bind fun t1497 => (if t1497 = true then (if bt1484.2 = 11 then (chicorylaw06_ScalarBytes.j0 k l0 bt1481.2 bt1481.1) else (some false)) else (some false))) else (if bt1484.2 = 0 then ((chicoryref06_Reduce.f k l0).bind fun t1498 => ((chicorylaw06_Is.f k bt1484.1 t1498).bind fun t1501 => (if t1501 = true then (chicorylaw06_ScalarBytes.j0 k l0 bt1481.2 bt1481.1) else (some false)))) else (some false))) else (some false))))))))
def chicorylaw06_ScalarBytes.T10 : Bool × List (List Nat × List Nat) := (true, [([], []), ([0], [0]), ([1], [1]), ([2], [2]), ([2], [2]), ([4, 2, 2], [2, 4]), ([3, 5, 5, 2], [2, 3, 5]), ([6, 2], [2, 6]), ([2, 7], [2, 7])])
def chicorylaw06_ScalarBytes.B10 : List Nat := [0, 1, 3, 7, 7, 23, 63, 127, 255]
theorem chicorylaw06_ScalarBytes.tab10 : rtab .any (opsOf Try.f22 10) = chicorylaw06_ScalarBytes.T10 := by kernel_rfl
theorem chicorylaw06_ScalarBytes.bits10 : waitsOk chicorylaw06_ScalarBytes.T10.2 chicorylaw06_ScalarBytes.B10 = true := by kernel_rfl
def chicorylaw06_ScalarBytes.T16 : Bool × List (List Nat × List Nat) := (true, [([], []), ([0], [0]), ([1], [1]), ([2], [2]), ([2], [2]), ([4, 2, 2], [2, 4]), ([3, 5, 5, 2], [2, 3, 5]), ([2, 6], [2, 6]), ([7, 6], [7]), ([8, 8], [8]), ([8, 9], [8, 9]), ([10, 9, 0, 1, 2, 3, 4, 5, 6, 7, 8, 9, 10], [10])])
def chicorylaw06_ScalarBytes.B16 : List Nat := [0, 1, 3, 7, 7, 23, 63, 127, 255, 511, 1023, 2047]
theorem chicorylaw06_ScalarBytes.tab16 : rtab .any (opsOf Try.f22 16) = chicorylaw06_ScalarBytes.T16 := by kernel_rfl
theorem chicorylaw06_ScalarBytes.bits16 : waitsOk chicorylaw06_ScalarBytes.T16.2 chicorylaw06_ScalarBytes.B16 = true := by kernel_rfl
set_option maxHeartbeats 8000000 in
set_option maxRecDepth 100000 in
theorem chicorylaw06_ScalarBytes.calls (k : Nat) (A0 : Option Addr) (c0 : Nat) (l0 : List Int) (w : World) (hr0 : Kd.C (Kd.int .u8) w A0 l0.length l0) (hc0 : l0.length ≤ c0) (h : chicorylaw06_ScalarBytes.f k l0 = some true) :
    Calls Try.prog 22 #[.slice A0 l0.length c0] w fun e w' => e = .returned (.bool true) ∧ Below w.heap.size w w' := by
  have hu73 := Try.underlying73
  have HR0 := Aside0.mk hr0
  have HC0 := Aside0.mk hc0
  clear hr0 hc0
  have HB := Aside0.mk (Below.refl w.heap.size w)
  have H : (if (l0.length : Int) > 200 then ((chicorylaw06_awake.f k).bind fun t1480 => (some t1480)) else ((scalar_Decode.f k l0).bind fun bt1481 => ((scalar_Reduce.f k l0).bind fun bt1484 => ((scalar_L.f k).bind fun t1487 => ((chicoryref06_L.f k).bind fun t1490 => ((chicoryref06_Bytes.f k t1490).bind fun t1493 => ((chicorylaw01_Bytes.f k t1487 t1493).bind fun t1496 => (if t1496 = true then (if (l0.length : Int) > 128 then ((scalar_Zero.f k bt1484.1).bind fun t1497 => (if t1497 = true then (if bt1484.2 = 11 then (chicorylaw06_ScalarBytes.j0 k l0 bt1481.2 bt1481.1) else (some false)) else (some false))) else (if bt1484.2 = 0 then ((chicoryref06_Reduce.f k l0).bind fun t1498 => ((chicorylaw06_Is.f k bt1484.1 t1498).bind fun t1501 => (if t1501 = true then (chicorylaw06_ScalarBytes.j0 k l0 bt1481.2 bt1481.1) else (some false)))) else (some false))) else (some false))))))))) = some true := h
  clear h
  by_cases c2 : (l0.length : Int) > 200
  · rw [if_pos c2] at H
    have c2b0 : decide (200 < (l0.length : Int)) = true := decide_eq_true c2
    have c2b1 : decide (200 < l0.length) = true := decide_eq_true (by omega)
    clear c2
    replace H := Option.bind_eq_some_iff.mp H
    obtain ⟨t1480, A30, H⟩ := H
    replace H : (some t1480) = some true := H
    have A3 := Aside0.mk A30
    clear A30
    obtain rfl := Option.some.inj H
    go_enter Try.func22, Try.ntmps22
    go_wp2_with (first | ((with_reducible refine gate_callee (f := 71) rfl ?_); refine goesL_ (some 10) rfl rfl Try.func71 (by kernel_rfl) rfl #[] rfl (by (try simp only [List.map_toArray, List.map_cons, List.map_nil]); first | done | rfl | (simp only [List.length_drop, List.length_take]; rfl)) ?_; (with_reducible refine (chicorylaw06_awake.calls k  true _ A3.out).mono ?_); rintro e w4 ⟨rfl, hb⟩; refine ⟨_, rfl, ?_⟩; have n0_ := Aside0.mk (below_step (by repeat (first | (with_reducible first | exact HB.out | apply below_alloc | apply pw_below_drewN | apply below_drew1) | exact HB.out)) hb); clear HB; have HB := n0_; clear n0_; (try clear hb); (try clear hb2); (try clear hk); (try clear hi)))
    go_ret
    exact ⟨by first | rfl | (simp [errW_none, errW_some] <;> rfl) | (simp [*, errW_none, errW_some] <;> rfl), by repeat (first | (with_reducible first | exact HB.out | apply below_alloc | apply pw_below_drewN | apply below_drew1) | exact HB.out)⟩
  · rw [if_neg c2] at H
    have c2b0 : decide (200 < (l0.length : Int)) = false := decide_eq_false c2
    have c2b1 : decide (200 < l0.length) = false := decide_eq_false (by omega)
    clear c2
    replace H := Option.bind_eq_some_iff.mp H
    obtain ⟨⟨t1481, t1482⟩, A50, H⟩ := H
    replace H : ((scalar_Reduce.f k l0).bind fun bt1484 => ((scalar_L.f k).bind fun t1487 => ((chicoryref06_L.f k).bind fun t1490 => ((chicoryref06_Bytes.f k t1490).bind fun t1493 => ((chicorylaw01_Bytes.f k t1487 t1493).bind fun t1496 => (if t1496 = true then (if (l0.length : Int) > 128 then ((scalar_Zero.f k bt1484.1).bind fun t1497 => (if t1497 = true then (if bt1484.2 = 11 then (chicorylaw06_ScalarBytes.j0 k l0 t1482 t1481) else (some false)) else (some false))) else (if bt1484.2 = 0 then ((chicoryref06_Reduce.f k l0).bind fun t1498 => ((chicorylaw06_Is.f k bt1484.1 t1498).bind fun t1501 => (if t1501 = true then (chicorylaw06_ScalarBytes.j0 k l0 t1482 t1481) else (some false)))) else (some false))) else (some false))))))) = some true := H
    have A5 := Aside0.mk A50
    clear A50
    replace H := Option.bind_eq_some_iff.mp H
    obtain ⟨⟨t1484, t1485⟩, A60, H⟩ := H
    replace H : ((scalar_L.f k).bind fun t1487 => ((chicoryref06_L.f k).bind fun t1490 => ((chicoryref06_Bytes.f k t1490).bind fun t1493 => ((chicorylaw01_Bytes.f k t1487 t1493).bind fun t1496 => (if t1496 = true then (if (l0.length : Int) > 128 then ((scalar_Zero.f k t1484).bind fun t1497 => (if t1497 = true then (if t1485 = 11 then (chicorylaw06_ScalarBytes.j0 k l0 t1482 t1481) else (some false)) else (some false))) else (if t1485 = 0 then ((chicoryref06_Reduce.f k l0).bind fun t1498 => ((chicorylaw06_Is.f k t1484 t1498).bind fun t1501 => (if t1501 = true then (chicorylaw06_ScalarBytes.j0 k l0 t1482 t1481) else (some false)))) else (some false))) else (some false)))))) = some true := H
    have A6 := Aside0.mk A60
    clear A60
    replace H := Option.bind_eq_some_iff.mp H
    obtain ⟨t1487, A70, H⟩ := H
    replace H : ((chicoryref06_L.f k).bind fun t1490 => ((chicoryref06_Bytes.f k t1490).bind fun t1493 => ((chicorylaw01_Bytes.f k t1487 t1493).bind fun t1496 => (if t1496 = true then (if (l0.length : Int) > 128 then ((scalar_Zero.f k t1484).bind fun t1497 => (if t1497 = true then (if t1485 = 11 then (chicorylaw06_ScalarBytes.j0 k l0 t1482 t1481) else (some false)) else (some false))) else (if t1485 = 0 then ((chicoryref06_Reduce.f k l0).bind fun t1498 => ((chicorylaw06_Is.f k t1484 t1498).bind fun t1501 => (if t1501 = true then (chicorylaw06_ScalarBytes.j0 k l0 t1482 t1481) else (some false)))) else (some false))) else (some false))))) = some true := H
    have A7 := Aside0.mk A70
    clear A70
    replace H := Option.bind_eq_some_iff.mp H
    obtain ⟨t1490, A80, H⟩ := H
    replace H : ((chicoryref06_Bytes.f k t1490).bind fun t1493 => ((chicorylaw01_Bytes.f k t1487 t1493).bind fun t1496 => (if t1496 = true then (if (l0.length : Int) > 128 then ((scalar_Zero.f k t1484).bind fun t1497 => (if t1497 = true then (if t1485 = 11 then (chicorylaw06_ScalarBytes.j0 k l0 t1482 t1481) else (some false)) else (some false))) else (if t1485 = 0 then ((chicoryref06_Reduce.f k l0).bind fun t1498 => ((chicorylaw06_Is.f k t1484 t1498).bind fun t1501 => (if t1501 = true then (chicorylaw06_ScalarBytes.j0 k l0 t1482 t1481) else (some false)))) else (some false))) else (some false)))) = some true := H
    have A8 := Aside0.mk A80
    clear A80
    replace H := Option.bind_eq_some_iff.mp H
    obtain ⟨t1493, A90, H⟩ := H
    replace H : ((chicorylaw01_Bytes.f k t1487 t1493).bind fun t1496 => (if t1496 = true then (if (l0.length : Int) > 128 then ((scalar_Zero.f k t1484).bind fun t1497 => (if t1497 = true then (if t1485 = 11 then (chicorylaw06_ScalarBytes.j0 k l0 t1482 t1481) else (some false)) else (some false))) else (if t1485 = 0 then ((chicoryref06_Reduce.f k l0).bind fun t1498 => ((chicorylaw06_Is.f k t1484 t1498).bind fun t1501 => (if t1501 = true then (chicorylaw06_ScalarBytes.j0 k l0 t1482 t1481) else (some false)))) else (some false))) else (some false))) = some true := H
    have A9 := Aside0.mk A90
    clear A90
    replace H := Option.bind_eq_some_iff.mp H
    obtain ⟨t1496, A100, H⟩ := H
    replace H : (if t1496 = true then (if (l0.length : Int) > 128 then ((scalar_Zero.f k t1484).bind fun t1497 => (if t1497 = true then (if t1485 = 11 then (chicorylaw06_ScalarBytes.j0 k l0 t1482 t1481) else (some false)) else (some false))) else (if t1485 = 0 then ((chicoryref06_Reduce.f k l0).bind fun t1498 => ((chicorylaw06_Is.f k t1484 t1498).bind fun t1501 => (if t1501 = true then (chicorylaw06_ScalarBytes.j0 k l0 t1482 t1481) else (some false)))) else (some false))) else (some false)) = some true := H
    have A10 := Aside0.mk A100
    clear A100
    by_cases c11 : t1496 = true
    · subst c11
      have H1 : (if (l0.length : Int) > 128 then ((scalar_Zero.f k t1484).bind fun t1497 => (if t1497 = true then (if t1485 = 11 then (chicorylaw06_ScalarBytes.j0 k l0 t1482 t1481) else (some false)) else (some false))) else (if t1485 = 0 then ((chicoryref06_Reduce.f k l0).bind fun t1498 => ((chicorylaw06_Is.f k t1484 t1498).bind fun t1501 => (if t1501 = true then (chicorylaw06_ScalarBytes.j0 k l0 t1482 t1481) else (some false)))) else (some false))) = some true := by rw [if_pos rfl] at H; exact H
      clear H
      have H := H1
      clear H1
      have HC12 := Aside0.mk H
      clear H
      go_enter Try.func22, Try.ntmps22
      go_upto_if 28 with (first | ((with_reducible refine gate_callee (f := 82) rfl ?_); refine goesL_ (some 13) rfl rfl Try.func82 (by kernel_rfl) rfl #[.slice A0 l0.length c0] rfl (by (try simp only [List.map_toArray, List.map_cons, List.map_nil]); first | done | rfl | (simp only [List.length_drop, List.length_take]; rfl)) ?_; (with_reducible refine (scalar_Decode.calls k _ _ l0 t1481 t1482 _ ?side1 ?side2 A5.out).mono ?_); (case side1 => repeat (first | exact HR0.out | (with_reducible refine Kd.C_alloc ?_ _) | (with_reducible refine Kd.C_drewN ?_ _) | (with_reducible refine Kd.C_drew ?_))); (case side2 => exact HC0.out); rintro e w13 ⟨rfl, hb⟩; refine ⟨_, rfl, ?_⟩; have n0_ := Aside0.mk (below_step (by repeat (first | (with_reducible first | exact HB.out | apply below_alloc | apply pw_below_drewN | apply below_drew1) | exact HB.out)) hb); clear HB; have HB := n0_; clear n0_; (try clear hb); (try clear hb2); (try clear hk); (try clear hi)) | ((with_reducible refine gate_dst (N := 3) rfl ?_); (try (refine gate_guard (by rfl) ?_; dsimp only)); refine box_event ?hg (N := 3) ?hd (cs := zv) (t := 73) ?hr ?_; (case hd => rfl); (case hg => rfl); (case hr => first | (go_simp; done) | (go_simp; rfl)); intro gb1483 hg w14 hbox hb; have n0_ := Aside0.mk (below_step (by repeat (first | (with_reducible first | exact HB.out | apply below_alloc | apply pw_below_drewN | apply below_drew1) | exact HB.out)) hb); have n1_ := Aside0.mk (hbox); have n2_ := Aside0.mk ((by rw [hg]; exact (below_size (by repeat (first | (with_reducible first | exact HB.out | apply below_alloc | apply pw_below_drewN | apply below_drew1) | exact HB.out))) : w.heap.size ≤ gb1483)); have n3_ := Aside0.mk ((by rw [hg]; exact (below_size (by repeat (first | (with_reducible first | exact HB.out | apply below_alloc | apply pw_below_drewN | apply below_drew1) | exact HB.out))) : w.heap.size ≤ gb1483)); clear HB; have HB := n0_; have BK1483 := n1_; have GW1483 := n2_; have GE1483 := n3_; clear n0_ n1_ n2_ n3_; clear hb hbox hg; obtain ⟨hcz15_0, hcz15_0_c1, hcz15_0_c2, hcz15_0_c3, hcz15_0_c4, hcz15_0_c5, hcz15_0_c6⟩ := c7_of (a := z7) BK1483.out rfl; obtain ⟨hfz15_0, hfz15_0_c1, hfz15_0_c2, hfz15_0_c3, hfz15_0_c4, hfz15_0_c5, hfz15_0_c6⟩ := fz7 BK1483.out) | ((with_reducible refine gate_callee (f := 80) rfl ?_); refine goesL_ (some 18) rfl rfl Try.func80 (by kernel_rfl) rfl #[.slice A0 l0.length c0] rfl (by (try simp only [List.map_toArray, List.map_cons, List.map_nil]); first | done | rfl | (simp only [List.length_drop, List.length_take]; rfl)) ?_; (with_reducible refine (scalar_Reduce.calls k _ _ l0 t1484 t1485 _ ?side1 ?side2 A6.out).mono ?_); (case side1 => exact Kd.C_below HR0.out (by repeat (first | (with_reducible first | exact HB.out | apply below_alloc | apply pw_below_drewN | apply below_drew1 | refine below_set ?_ GE1483.out) | exact HB.out))); (case side2 => exact HC0.out); rintro e w16 ⟨rfl, hb⟩; refine ⟨_, rfl, ?_⟩; have n0_ := Aside0.mk (blk_below (g := gb1483) (o := .cells (sv t1481) 73 (0, 0)) (by (with_reducible repeat (first | refine blk_drewN ?_ _ | refine blk_drew ?_ | refine blk_alloc ?_ _)); refine blk_put7z ?_; (with_reducible repeat (first | refine blk_drewN ?_ _ | refine blk_drew ?_ | refine blk_alloc ?_ _)); exact BK1483.out) hb); have n1_ := Aside0.mk (below_step (by repeat (first | (with_reducible first | exact HB.out | apply below_alloc | apply pw_below_drewN | apply below_drew1 | refine below_set ?_ GE1483.out) | exact HB.out)) hb); clear BK1483; clear HB; have BK1483 := n0_; have HB := n1_; clear n0_ n1_; (try clear hb); (try clear hb2); (try clear hk); (try clear hi)) | ((with_reducible refine gate_dst (N := 5) rfl ?_); (try (refine gate_guard (by rfl) ?_; dsimp only)); refine box_event ?hg (N := 5) ?hd (cs := zv) (t := 73) ?hr ?_; (case hd => rfl); (case hg => rfl); (case hr => first | (go_simp; done) | (go_simp; rfl)); intro gb1486 hg w17 hbox hb; have n0_ := Aside0.mk (blk_below (g := gb1483) (o := .cells (sv t1481) 73 (0, 0)) (by (with_reducible repeat (first | refine blk_drewN ?_ _ | refine blk_drew ?_ | refine blk_alloc ?_ _)); exact BK1483.out) hb); have n1_ := Aside0.mk (below_step (by repeat (first | (with_reducible first | exact HB.out | apply below_alloc | apply pw_below_drewN | apply below_drew1 | refine below_set ?_ GE1483.out) | exact HB.out)) hb); have n2_ := Aside0.mk (hbox); have n3_ := Aside0.mk ((by rw [hg]; exact (below_size (by repeat (first | (with_reducible first | exact HB.out | apply below_alloc | apply pw_below_drewN | apply below_drew1 | refine below_set ?_ GE1483.out) | exact HB.out))) : w.heap.size ≤ gb1486)); have n4_ := Aside0.mk ((by rw [hg]; exact (below_size (by repeat (first | (with_reducible first | exact HB.out | apply below_alloc | apply pw_below_drewN | apply below_drew1 | refine below_set ?_ GE1483.out) | exact HB.out))) : w.heap.size ≤ gb1486)); have n5_ := Aside0.mk ((by rw [hg]; exact Nat.ne_of_lt (blk_lt (g := gb1483) (o := .cells (sv t1481) 73 (0, 0)) (by (with_reducible repeat (first | refine blk_drewN ?_ _ | refine blk_drew ?_ | refine blk_alloc ?_ _)); exact BK1483.out)) : gb1483 ≠ gb1486)); have n6_ := Aside0.mk ((by rw [hg]; exact Nat.ne_of_gt (blk_lt (g := gb1483) (o := .cells (sv t1481) 73 (0, 0)) (by (with_reducible repeat (first | refine blk_drewN ?_ _ | refine blk_drew ?_ | refine blk_alloc ?_ _)); exact BK1483.out)) : gb1486 ≠ gb1483)); clear BK1483; clear HB; have BK1483 := n0_; have HB := n1_; have BK1486 := n2_; have GW1486 := n3_; have GE1486 := n4_; have NB1483_1486 := n5_; have NB1486_1483 := n6_; clear n0_ n1_ n2_ n3_ n4_ n5_ n6_; clear hb hbox hg; have hnb18 := NB1486_1483.out; have hnc18 := NB1483_1486.out; obtain ⟨hcz19_0, hcz19_0_c1, hcz19_0_c2, hcz19_0_c3, hcz19_0_c4, hcz19_0_c5, hcz19_0_c6⟩ := c7_of (a := z7) BK1486.out rfl; obtain ⟨hfz19_0, hfz19_0_c1, hfz19_0_c2, hfz19_0_c3, hfz19_0_c4, hfz19_0_c5, hfz19_0_c6⟩ := fz7 BK1486.out) | ((with_reducible refine gate_callee (f := 83) rfl ?_); refine goesL_ (some 21) rfl rfl Try.func83 (by kernel_rfl) rfl #[] rfl (by (try simp only [List.map_toArray, List.map_cons, List.map_nil]); first | done | rfl | (simp only [List.length_drop, List.length_take]; rfl)) ?_; (with_reducible refine (scalar_L.calls k  t1487 _ A7.out).mono ?_); rintro e w20 ⟨v1488, rfl, ho0, hb⟩; refine ⟨_, rfl, ?_⟩; have n0_ := Aside0.mk (Kd.R_lower ho0 (below_size (by repeat (first | (with_reducible first | exact HB.out | apply below_alloc | apply pw_below_drewN | apply below_drew1 | refine below_set ?_ GE1483.out | refine below_set ?_ GE1486.out) | exact HB.out)))); have n1_ := Aside0.mk (blk_below (g := gb1483) (o := .cells (sv t1481) 73 (0, 0)) (by (with_reducible repeat (first | refine blk_drewN ?_ _ | refine blk_drew ?_ | refine blk_alloc ?_ _)); refine blk_far7 ?_ NB1483_1486.out; (with_reducible repeat (first | refine blk_drewN ?_ _ | refine blk_drew ?_ | refine blk_alloc ?_ _)); exact BK1483.out) hb); have n2_ := Aside0.mk (blk_below (g := gb1486) (o := .cells (sv t1484) 73 (0, 0)) (by (with_reducible repeat (first | refine blk_drewN ?_ _ | refine blk_drew ?_ | refine blk_alloc ?_ _)); refine blk_put7z ?_; (with_reducible repeat (first | refine blk_drewN ?_ _ | refine blk_drew ?_ | refine blk_alloc ?_ _)); exact BK1486.out) hb); have n3_ := Aside0.mk (below_step (by repeat (first | (with_reducible first | exact HB.out | apply below_alloc | apply pw_below_drewN | apply below_drew1 | refine below_set ?_ GE1483.out | refine below_set ?_ GE1486.out) | exact HB.out)) hb); clear BK1483; clear BK1486; clear HB; have HO1489 := n0_; have BK1483 := n1_; have BK1486 := n2_; have HB := n3_; clear n0_ n1_ n2_ n3_; (try clear hb); (try clear hb2); (try clear hk); (try clear hi); (try clear ho0)) | ((with_reducible refine gate_callee (f := 85) rfl ?_); refine goesL_ (some 22) rfl rfl Try.func85 (by kernel_rfl) rfl #[] rfl (by (try simp only [List.map_toArray, List.map_cons, List.map_nil]); first | done | rfl | (simp only [List.length_drop, List.length_take]; rfl)) ?_; (with_reducible refine (chicoryref06_L.calls k  t1490 _ A8.out).mono ?_); rintro e w21 ⟨v1491, rfl, ho0, hb⟩; refine ⟨_, rfl, ?_⟩; have n0_ := Aside0.mk (Kd.R_below (by (with_reducible repeat (first | apply Kd.R_alloc | apply Kd.R_drewN | apply Kd.R_drew)); exact HO1489.out) hb); have n1_ := Aside0.mk (Kd.V_lower (Kd.V_mono (ok' := fun k_ => some k_ ≠ (v1488 : Value).ownBlock ∧ k_ ≠ gb1483 ∧ k_ ≠ gb1486) ho0 (fun k_ hk_ => ⟨(Kd.fresh' (Kd.R_lt (by (with_reducible repeat (first | apply Kd.R_alloc | apply Kd.R_drewN | apply Kd.R_drew)); exact HO1489.out)) k_ hk_), (Kd.freshB (g := gb1483) (o := .cells (sv t1481) 73 (0, 0)) (by (with_reducible repeat (first | refine blk_drewN ?_ _ | refine blk_drew ?_ | refine blk_alloc ?_ _)); exact BK1483.out) k_ hk_), (Kd.freshB (g := gb1486) (o := .cells (sv t1484) 73 (0, 0)) (by (with_reducible repeat (first | refine blk_drewN ?_ _ | refine blk_drew ?_ | refine blk_alloc ?_ _)); exact BK1486.out) k_ hk_)⟩)) (below_size (by repeat (first | (with_reducible first | exact HB.out | apply below_alloc | apply pw_below_drewN | apply below_drew1 | refine below_set ?_ GE1483.out | refine below_set ?_ GE1486.out) | exact HB.out)))); have n2_ := Aside0.mk (blk_below (g := gb1483) (o := .cells (sv t1481) 73 (0, 0)) (by (with_reducible repeat (first | refine blk_drewN ?_ _ | refine blk_drew ?_ | refine blk_alloc ?_ _)); exact BK1483.out) hb); have n3_ := Aside0.mk (blk_below (g := gb1486) (o := .cells (sv t1484) 73 (0, 0)) (by (with_reducible repeat (first | refine blk_drewN ?_ _ | refine blk_drew ?_ | refine blk_alloc ?_ _)); exact BK1486.out) hb); have n4_ := Aside0.mk (below_step (by repeat (first | (with_reducible first | exact HB.out | apply below_alloc | apply pw_below_drewN | apply below_drew1 | refine below_set ?_ GE1483.out | refine below_set ?_ GE1486.out) | exact HB.out)) hb); clear HO1489; clear BK1483; clear BK1486; clear HB; have HO1489 := n0_; have HO1492 := n1_; have BK1483 := n2_; have BK1486 := n3_; have HB := n4_; clear n0_ n1_ n2_ n3_ n4_; (try clear hb); (try clear hb2); (try clear hk); (try clear hi); (try clear ho0); obtain ⟨Ao22, co22, eo22⟩ := Kd.V_slice HO1492.out; subst eo22) | ((with_reducible refine gate_callee (f := 84) rfl ?_); refine goesL_ (some 23) rfl rfl Try.func84 (by kernel_rfl) rfl #[.slice Ao22 t1490.length co22] rfl (by (try simp only [List.map_toArray, List.map_cons, List.map_nil]); first | done | rfl | (simp only [List.length_drop, List.length_take]; rfl)) ?_; (with_reducible refine (chicoryref06_Bytes.calls k _ _ t1490 t1493 _ ?side1 ?side2 A9.out).mono ?_); (case side1 => repeat (first | exact (Kd.V_reads' HO1492.out).2.2 | (with_reducible refine Kd.C_alloc ?_ _) | (with_reducible refine Kd.C_drewN ?_ _) | (with_reducible refine Kd.C_drew ?_))); (case side2 => exact (Kd.V_reads' HO1492.out).2.1); rintro e w23 ⟨v1494, rfl, ho0, hb⟩; refine ⟨_, rfl, ?_⟩; have n0_ := Aside0.mk (Kd.R_elder' (by (with_reducible repeat (first | apply Kd.R_alloc | apply Kd.R_drewN | apply Kd.R_drew)); exact HO1489.out) (Kd.R_base ho0) hb); have n1_ := Aside0.mk (Kd.V_elder' (by (with_reducible repeat (first | apply Kd.V_alloc | apply Kd.V_drewN | apply Kd.V_drew)); exact HO1492.out) (Kd.R_base ho0) hb); have n2_ := Aside0.mk (Kd.R_lower (Kd.R_new' ho0 (Kd.R_lt (by (with_reducible repeat (first | apply Kd.R_alloc | apply Kd.R_drewN | apply Kd.R_drew)); exact HO1489.out))) (below_size (by repeat (first | (with_reducible first | exact HB.out | apply below_alloc | apply pw_below_drewN | apply below_drew1 | refine below_set ?_ GE1483.out | refine below_set ?_ GE1486.out) | exact HB.out)))); have n3_ := Aside0.mk (blk_below (g := gb1483) (o := .cells (sv t1481) 73 (0, 0)) (by (with_reducible repeat (first | refine blk_drewN ?_ _ | refine blk_drew ?_ | refine blk_alloc ?_ _)); exact BK1483.out) hb); have n4_ := Aside0.mk (blk_below (g := gb1486) (o := .cells (sv t1484) 73 (0, 0)) (by (with_reducible repeat (first | refine blk_drewN ?_ _ | refine blk_drew ?_ | refine blk_alloc ?_ _)); exact BK1486.out) hb); have n5_ := Aside0.mk (below_step (by repeat (first | (with_reducible first | exact HB.out | apply below_alloc | apply pw_below_drewN | apply below_drew1 | refine below_set ?_ GE1483.out | refine below_set ?_ GE1486.out) | exact HB.out)) hb); clear HO1489; clear HO1492; clear BK1483; clear BK1486; clear HB; have HO1489 := n0_; have HO1492 := n1_; have HO1495 := n2_; have BK1483 := n3_; have BK1486 := n4_; have HB := n5_; clear n0_ n1_ n2_ n3_ n4_ n5_; (try clear hb); (try clear hb2); (try clear hk); (try clear hi); (try clear ho0); obtain ⟨Ao24, co24, eo24⟩ := Kd.R_slice HO1489.out; subst eo24; obtain ⟨Ao25, co25, eo25⟩ := Kd.R_slice HO1495.out; subst eo25) | ((with_reducible refine gate_callee (f := 60) rfl ?_); refine goesL_ (some 24) rfl rfl Try.func60 (by kernel_rfl) rfl #[.slice Ao24 t1487.length co24, .slice Ao25 t1493.length co25] rfl (by (try simp only [List.map_toArray, List.map_cons, List.map_nil]); first | done | rfl | (simp only [List.length_drop, List.length_take]; rfl)) ?_; (with_reducible refine (chicorylaw01_Bytes.calls k _ _ t1487 _ _ t1493 true _ ?side1 ?side2 ?side3 ?side4 A10.out).mono ?_); (case side1 => repeat (first | exact (Kd.R_reads' HO1489.out).2.2 | (with_reducible refine Kd.C_alloc ?_ _) | (with_reducible refine Kd.C_drewN ?_ _) | (with_reducible refine Kd.C_drew ?_))); (case side2 => exact (Kd.R_reads' HO1489.out).2.1); (case side3 => repeat (first | exact (Kd.R_reads' HO1495.out).2.2 | (with_reducible refine Kd.C_alloc ?_ _) | (with_reducible refine Kd.C_drewN ?_ _) | (with_reducible refine Kd.C_drew ?_))); (case side4 => exact (Kd.R_reads' HO1495.out).2.1); rintro e w' ⟨rfl, ⟨nd, rfl⟩⟩; refine ⟨_, rfl, ?_⟩))
      (try simp only [Act.put, List.setIfInBounds_toArray, List.set_cons_zero, List.set_cons_succ])
      go_cut [] (fun wc => ∃ (kq : Nat), Aside0 (chicorylaw06_ScalarBytes.j0 kq l0 t1482 t1481 = some true) ∧ Aside0 (kq ≤ k) ∧ Aside0 (wc.heap[gb1483]? = some (.cells (sv t1481) 73 (0, 0))) ∧ Aside0 (wc.heap[gb1486]? = some (.cells (sv t1484) 73 (0, 0))) ∧ Aside0 (Below w.heap.size w wc))
      case first =>
        have H := HC12.out
        clear HC12
        by_cases c26 : (l0.length : Int) > 128
        · rw [if_pos c26] at H
          have c26b0 : decide (128 < (l0.length : Int)) = true := decide_eq_true c26
          have c26b1 : decide (128 < l0.length) = true := decide_eq_true (by omega)
          clear c26
          (first | rw [c26b0] | (simp only [i64_w, i32_w]; rw [c26b0]) | skip)
          replace H := Option.bind_eq_some_iff.mp H
          obtain ⟨t1497, A270, H⟩ := H
          replace H : (if t1497 = true then (if t1485 = 11 then (chicorylaw06_ScalarBytes.j0 k l0 t1482 t1481) else (some false)) else (some false)) = some true := H
          have A27 := Aside0.mk A270
          clear A270
          by_cases c28 : t1497 = true
          · subst c28
            have H1 : (if t1485 = 11 then (chicorylaw06_ScalarBytes.j0 k l0 t1482 t1481) else (some false)) = some true := by rw [if_pos rfl] at H; exact H
            clear H
            have H := H1
            clear H1
            by_cases c29 : t1485 = 11
            · rw [if_pos c29] at H
              have c29b0 : (t1485 == 11) = true := beq_iff_eq.mpr c29
              have c29b1 : (t1485 != 11) = false := bne_eq_false_iff_eq.mpr c29
              clear c29
              have H' := Aside0.mk H
              clear H
              have hnb30 := NB1486_1483.out
              have hnc30 := NB1483_1486.out
              obtain ⟨hcz31_0, hcz31_0_c1, hcz31_0_c2, hcz31_0_c3, hcz31_0_c4, hcz31_0_c5, hcz31_0_c6⟩ := c7_of (a := t1484) BK1486.out rfl
              obtain ⟨hfz31_0, hfz31_0_c1, hfz31_0_c2, hfz31_0_c3, hfz31_0_c4, hfz31_0_c5, hfz31_0_c6⟩ := fz7 BK1486.out
              go_wp2_with (first | ((with_reducible refine gate_callee (f := 77) rfl ?_); refine goesL_ (some 30) rfl rfl Try.func77 (by kernel_rfl) rfl #[.agg (sv t1484)] rfl (by (try simp only [List.map_toArray, List.map_cons, List.map_nil]); first | done | rfl | (simp only [List.length_drop, List.length_take]; rfl)) ?_; (with_reducible refine (scalar_Zero.calls k t1484 true _ A27.out).mono ?_); rintro e w32 ⟨rfl, hb⟩; refine ⟨_, rfl, ?_⟩; have n0_ := Aside0.mk (Kd.R_below (by (with_reducible repeat (first | apply Kd.R_alloc | apply Kd.R_drewN | apply Kd.R_drew)); exact HO1489.out) hb); have n1_ := Aside0.mk (Kd.V_below (by (with_reducible repeat (first | apply Kd.V_alloc | apply Kd.V_drewN | apply Kd.V_drew)); exact HO1492.out) hb); have n2_ := Aside0.mk (Kd.R_below (by (with_reducible repeat (first | apply Kd.R_alloc | apply Kd.R_drewN | apply Kd.R_drew)); exact HO1495.out) hb); have n3_ := Aside0.mk (blk_below (g := gb1483) (o := .cells (sv t1481) 73 (0, 0)) (by (with_reducible repeat (first | refine blk_drewN ?_ _ | refine blk_drew ?_ | refine blk_alloc ?_ _)); exact BK1483.out) hb); have n4_ := Aside0.mk (blk_below (g := gb1486) (o := .cells (sv t1484) 73 (0, 0)) (by (with_reducible repeat (first | refine blk_drewN ?_ _ | refine blk_drew ?_ | refine blk_alloc ?_ _)); exact BK1486.out) hb); have n5_ := Aside0.mk (below_step (by repeat (first | (with_reducible first | exact HB.out | apply below_alloc | apply pw_below_drewN | apply below_drew1 | refine below_set ?_ GE1483.out | refine below_set ?_ GE1486.out) | exact HB.out)) hb); clear HO1489; clear HO1492; clear HO1495; clear BK1483; clear BK1486; clear HB; have HO1489 := n0_; have HO1492 := n1_; have HO1495 := n2_; have BK1483 := n3_; have BK1486 := n4_; have HB := n5_; clear n0_ n1_ n2_ n3_ n4_ n5_; (try clear hb); (try clear hb2); (try clear hk); (try clear hi)))
              go_meet
              case rel => exact ⟨_, H', ⟨by first | omega | exact Nat.le_refl _⟩, ⟨by (with_reducible repeat (first | refine blk_drewN ?_ _ | refine blk_drew ?_ | refine blk_alloc ?_ _)); exact BK1483.out⟩, ⟨by (with_reducible repeat (first | refine blk_drewN ?_ _ | refine blk_drew ?_ | refine blk_alloc ?_ _)); exact BK1486.out⟩, ⟨by repeat (first | (with_reducible first | exact HB.out | apply below_alloc | apply pw_below_drewN | apply below_drew1 | refine below_set ?_ GE1483.out | refine below_set ?_ GE1486.out) | exact HB.out)⟩⟩
            · rw [if_neg c29] at H
              have c29b0 : (t1485 == 11) = false := beq_eq_false_iff_ne.mpr c29
              have c29b1 : (t1485 != 11) = true := bne_iff_ne.mpr c29
              exact absurd H (by simp)
          · replace c28 := Bool.eq_false_iff.mpr c28
            subst c28
            have H1 : (some false) = some true := by rw [if_neg (show ¬ (false = true) by decide)] at H; exact H
            clear H
            have H := H1
            clear H1
            exact absurd H (by simp)
        · rw [if_neg c26] at H
          have c26b0 : decide (128 < (l0.length : Int)) = false := decide_eq_false c26
          have c26b1 : decide (128 < l0.length) = false := decide_eq_false (by omega)
          clear c26
          (first | rw [c26b0] | (simp only [i64_w, i32_w]; rw [c26b0]) | skip)
          by_cases c39 : t1485 = 0
          · rw [if_pos c39] at H
            have c39b0 : (t1485 == 0) = true := beq_iff_eq.mpr c39
            have c39b1 : (t1485 != 0) = false := bne_eq_false_iff_eq.mpr c39
            clear c39
            replace H := Option.bind_eq_some_iff.mp H
            obtain ⟨t1498, A400, H⟩ := H
            replace H : ((chicorylaw06_Is.f k t1484 t1498).bind fun t1501 => (if t1501 = true then (chicorylaw06_ScalarBytes.j0 k l0 t1482 t1481) else (some false))) = some true := H
            have A40 := Aside0.mk A400
            clear A400
            replace H := Option.bind_eq_some_iff.mp H
            obtain ⟨t1501, A410, H⟩ := H
            replace H : (if t1501 = true then (chicorylaw06_ScalarBytes.j0 k l0 t1482 t1481) else (some false)) = some true := H
            have A41 := Aside0.mk A410
            clear A410
            by_cases c42 : t1501 = true
            · subst c42
              have H1 : (chicorylaw06_ScalarBytes.j0 k l0 t1482 t1481) = some true := by rw [if_pos rfl] at H; exact H
              clear H
              have H := H1
              clear H1
              have H' := Aside0.mk H
              clear H
              try go_wp2
              have n0_ := Aside0.mk (Kd.R_drew (Kd.R_drewN HO1489.out nd))
              have n1_ := Aside0.mk (Kd.V_drew (Kd.V_drewN HO1492.out nd))
              have n2_ := Aside0.mk (Kd.R_drew (Kd.R_drewN HO1495.out nd))
              have n3_ := Aside0.mk (blk_drew (blk_drewN BK1483.out nd))
              have n4_ := Aside0.mk (blk_drew (blk_drewN BK1486.out nd))
              have n5_ := Aside0.mk (below_drew1 (pw_below_drewN HB.out nd))
              clear HO1489
              clear HO1492
              clear HO1495
              clear BK1483
              clear BK1486
              clear HB
              have HO1489 := n0_
              have HO1492 := n1_
              have HO1495 := n2_
              have BK1483 := n3_
              have BK1486 := n4_
              have HB := n5_
              clear n0_ n1_ n2_ n3_ n4_ n5_
              refine start_ (n := 9) (S := fun w' => c7 w' gb1486 t1484) (ds := []) #[false, false, false, false, false, false, false, false, false] (by kernel_rfl) rfl rfl (c7_of BK1486.out rfl) (fun hHeld => ?_); refine with_tabW chicorylaw06_ScalarBytes.tab10 chicorylaw06_ScalarBytes.bits10 (fun HT_ HW_ => ?_)
              generalize (w23.drewN nd).drew = w43 at HO1489 HO1492 HO1495 BK1483 BK1486 HB hHeld ⊢
              refine pure_ (i := 0) (N := some 36) (v := ?_) (a' := ?_) #[true, false, false, false, false, false, false, false, false] rfl rfl (any_of HT_.out (by kernel_rfl)) (fun _ _ _ h => h) (Or.inl ⟨by rfl, ?_⟩) ?_ ?_
              rotate_left
              · intro w'
                go_simp
                with_reducible rfl
              rotate_left
              · simp only [Act.put, List.setIfInBounds_toArray, List.set_cons_zero, List.set_cons_succ, i64_w, i32_w]
                rfl
              refine pure_ (i := 1) (N := some 37) (v := ?_) (a' := ?_) #[true, true, false, false, false, false, false, false, false] rfl rfl (any_of HT_.out (by kernel_rfl)) (fun _ _ _ h => h) (Or.inl ⟨by rfl, ?_⟩) ?_ ?_
              rotate_left
              · intro w'
                go_simp
                with_reducible rfl
              rotate_left
              · simp only [Act.put, List.setIfInBounds_toArray, List.set_cons_zero, List.set_cons_succ, i64_w, i32_w]
                rfl
              refine pure_ (i := 2) (N := some 38) (v := ?_) (a' := ?_) #[true, true, true, false, false, false, false, false, false] rfl rfl (any_of HT_.out (by kernel_rfl)) (fun _ _ _ h => h) (Or.inl ⟨by rfl, ?_⟩) ?_ ?_
              rotate_left
              · intro w'
                go_simp
                with_reducible rfl
              rotate_left
              · simp only [Act.put, List.setIfInBounds_toArray, List.set_cons_zero, List.set_cons_succ, i64_w, i32_w]
                rfl
              refine pure_ (i := 4) (N := some 40) (v := ?_) (a' := ?_) #[true, true, true, false, true, false, false, false, false] rfl rfl (any_of HT_.out (by kernel_rfl)) (fun _ _ _ h => h) (Or.inl ⟨by rfl, ?_⟩) ?_ ?_
              rotate_left
              · intro w'
                go_simp
                with_reducible rfl
              rotate_left
              · simp only [Act.put, List.setIfInBounds_toArray, List.set_cons_zero, List.set_cons_succ, i64_w, i32_w]
                rfl
              refine take_ (i := 3) (N := some 39) (v := ?_) (a' := ?_) #[true, true, true, true, true, false, false, false, false] rfl rfl (take_ofW HT_.out HW_.out (by kernel_rfl)) (fun _ _ _ h => h) (Or.inl ⟨by rfl, ?_⟩) hHeld ?_ ?_
              rotate_left
              · rintro w' ⟨s0, s0_c1, s0_c2, s0_c3, s0_c4, s0_c5, s0_c6⟩
                go_simp
                with_reducible rfl
              rotate_left
              · simp only [Act.put, List.setIfInBounds_toArray, List.set_cons_zero, List.set_cons_succ, i64_w, i32_w]
                rfl
              refine one_ (i := 5) (N := some 41) #[true, true, true, true, true, true, false, false, false] rfl rfl (one_of HT_.out (by kernel_rfl)) (by decide) (fun K hK => ?_)
              refine goes_ Try.func86 (by kernel_rfl) rfl #[.slice A0 l0.length c0] (by rfl) rfl rfl (by (try simp only [List.map_toArray, List.map_cons, List.map_nil]); first | done | rfl | (simp only [List.length_drop, List.length_take]; rfl)) ?_
              with_reducible refine (chicoryref06_Reduce.calls k (fun k_ => k_ < w.heap.size) _ _ l0 t1498 _ ?side1 A40.out).mono ?_
              (case side1 => exact Kd.V_mk HC0.out (Kd.F_below (Kd.C_F (Kd.heap_int .u8) HR0.out) (by repeat (first | (with_reducible first | exact HB.out | apply below_alloc | apply pw_below_drewN | apply below_drew1 | refine below_set ?_ GE1483.out | refine below_set ?_ GE1486.out) | exact HB.out))))
              rintro e w44 ⟨v1499, rfl, ho0, hb⟩
              refine ⟨_, rfl, ?_⟩
              have n0_ := Aside0.mk (Kd.R_below (by (with_reducible repeat (first | apply Kd.R_alloc | apply Kd.R_drewN | apply Kd.R_drew)); exact HO1489.out) hb)
              have n1_ := Aside0.mk (Kd.V_below (by (with_reducible repeat (first | apply Kd.V_alloc | apply Kd.V_drewN | apply Kd.V_drew)); exact HO1492.out) hb)
              have n2_ := Aside0.mk (Kd.R_below (by (with_reducible repeat (first | apply Kd.R_alloc | apply Kd.R_drewN | apply Kd.R_drew)); exact HO1495.out) hb)
              have n3_ := Aside0.mk (Kd.V_lower (Kd.V_mono (ok' := fun k_ => some k_ ≠ (.slice Ao24 t1487.length co24 : Value).ownBlock ∧ some k_ ≠ (.slice Ao25 t1493.length co25 : Value).ownBlock ∧ k_ ≠ gb1483 ∧ k_ ≠ gb1486) ho0 (fun k_ hk_ => ⟨Or.elim hk_ (fun hs_ => fun e_ => Nat.not_le.2 hs_ (Kd.R_base HO1489.out k_ e_.symm)) (fun hn_ => (Kd.fresh' (Kd.R_lt (by (with_reducible repeat (first | apply Kd.R_alloc | apply Kd.R_drewN | apply Kd.R_drew)); exact HO1489.out)) k_ hn_)), Or.elim hk_ (fun hs_ => fun e_ => Nat.not_le.2 hs_ (Kd.R_base HO1495.out k_ e_.symm)) (fun hn_ => (Kd.fresh' (Kd.R_lt (by (with_reducible repeat (first | apply Kd.R_alloc | apply Kd.R_drewN | apply Kd.R_drew)); exact HO1495.out)) k_ hn_)), Or.elim hk_ (fun hs_ => fun e_ => Nat.not_le.2 hs_ (by rw [e_]; exact GW1483.out)) (fun hn_ => (Kd.freshB (g := gb1483) (o := .cells (sv t1481) 73 (0, 0)) (by (with_reducible repeat (first | refine blk_drewN ?_ _ | refine blk_drew ?_ | refine blk_alloc ?_ _)); exact BK1483.out) k_ hn_)), Or.elim hk_ (fun hs_ => fun e_ => Nat.not_le.2 hs_ (by rw [e_]; exact GW1486.out)) (fun hn_ => (Kd.freshB (g := gb1486) (o := .cells (sv t1484) 73 (0, 0)) (by (with_reducible repeat (first | refine blk_drewN ?_ _ | refine blk_drew ?_ | refine blk_alloc ?_ _)); exact BK1486.out) k_ hn_))⟩)) (below_size (by repeat (first | (with_reducible first | exact HB.out | apply below_alloc | apply pw_below_drewN | apply below_drew1 | refine below_set ?_ GE1483.out | refine below_set ?_ GE1486.out) | exact HB.out))))
              have n4_ := Aside0.mk (blk_below (g := gb1483) (o := .cells (sv t1481) 73 (0, 0)) (by (with_reducible repeat (first | refine blk_drewN ?_ _ | refine blk_drew ?_ | refine blk_alloc ?_ _)); exact BK1483.out) hb)
              have n5_ := Aside0.mk (blk_below (g := gb1486) (o := .cells (sv t1484) 73 (0, 0)) (by (with_reducible repeat (first | refine blk_drewN ?_ _ | refine blk_drew ?_ | refine blk_alloc ?_ _)); exact BK1486.out) hb)
              have n6_ := Aside0.mk (below_step (by repeat (first | (with_reducible first | exact HB.out | apply below_alloc | apply pw_below_drewN | apply below_drew1 | refine below_set ?_ GE1483.out | refine below_set ?_ GE1486.out) | exact HB.out)) hb)
              clear HO1489
              clear HO1492
              clear HO1495
              clear BK1483
              clear BK1486
              clear HB
              have HO1489 := n0_
              have HO1492 := n1_
              have HO1495 := n2_
              have HO1500 := n3_
              have BK1483 := n4_
              have BK1486 := n5_
              have HB := n6_
              clear n0_ n1_ n2_ n3_ n4_ n5_ n6_
              (try clear hb)
              (try clear hb2)
              (try clear hk)
              (try clear hi)
              (try clear ho0)
              obtain ⟨Ao45, co45, eo45⟩ := Kd.V_slice HO1500.out
              (first | subst eo45 | (injection eo45 with f1_ f2_ f3_; have f4_ := f1_.symm; have f5_ := f3_.symm; clear f1_ f2_ f3_; subst f4_; subst f5_))
              refine hK.out _ _ (c7_of BK1486.out rfl) (fun hHeld => ?_)
              clear hK K
              refine norm_ (a' := ?_) ?_ ?_
              rotate_left
              · show Act.put _ (some 41) _ = _
                simp only [Act.put, List.setIfInBounds_toArray, List.set_cons_zero, List.set_cons_succ, i64_w, i32_w]
                rfl
              refine one_ (i := 6) (N := some 42) #[true, true, true, true, true, true, true, false, false] rfl rfl (one_of HT_.out (by kernel_rfl)) (by decide) (fun K hK => ?_)
              refine goes_ Try.func63 (by kernel_rfl) rfl #[.agg (sv t1484), .slice Ao45 t1498.length co45] (by rfl) rfl rfl (by (try simp only [List.map_toArray, List.map_cons, List.map_nil]); first | done | rfl | (simp only [List.length_drop, List.length_take]; rfl)) ?_
              with_reducible refine (chicorylaw06_Is.calls k t1484 _ _ t1498 true _ ?side1 ?side2 A41.out).mono ?_
              (case side1 => repeat (first | exact (Kd.V_reads' HO1500.out).2.2 | (with_reducible refine Kd.C_alloc ?_ _) | (with_reducible refine Kd.C_drewN ?_ _) | (with_reducible refine Kd.C_drew ?_)))
              (case side2 => exact (Kd.V_reads' HO1500.out).2.1)
              rintro e w46 ⟨rfl, hb⟩
              refine ⟨_, rfl, ?_⟩
              have n0_ := Aside0.mk (Kd.R_below (by (with_reducible repeat (first | apply Kd.R_alloc | apply Kd.R_drewN | apply Kd.R_drew)); exact HO1489.out) hb)
              have n1_ := Aside0.mk (Kd.V_below (by (with_reducible repeat (first | apply Kd.V_alloc | apply Kd.V_drewN | apply Kd.V_drew)); exact HO1492.out) hb)
              have n2_ := Aside0.mk (Kd.R_below (by (with_reducible repeat (first | apply Kd.R_alloc | apply Kd.R_drewN | apply Kd.R_drew)); exact HO1495.out) hb)
              have n3_ := Aside0.mk (Kd.V_below (by (with_reducible repeat (first | apply Kd.V_alloc | apply Kd.V_drewN | apply Kd.V_drew)); exact HO1500.out) hb)
              have n4_ := Aside0.mk (blk_below (g := gb1483) (o := .cells (sv t1481) 73 (0, 0)) (by (with_reducible repeat (first | refine blk_drewN ?_ _ | refine blk_drew ?_ | refine blk_alloc ?_ _)); exact BK1483.out) hb)
              have n5_ := Aside0.mk (blk_below (g := gb1486) (o := .cells (sv t1484) 73 (0, 0)) (by (with_reducible repeat (first | refine blk_drewN ?_ _ | refine blk_drew ?_ | refine blk_alloc ?_ _)); exact BK1486.out) hb)
              have n6_ := Aside0.mk (below_step (by repeat (first | (with_reducible first | exact HB.out | apply below_alloc | apply pw_below_drewN | apply below_drew1 | refine below_set ?_ GE1483.out | refine below_set ?_ GE1486.out) | exact HB.out)) hb)
              clear HO1489
              clear HO1492
              clear HO1495
              clear HO1500
              clear BK1483
              clear BK1486
              clear HB
              have HO1489 := n0_
              have HO1492 := n1_
              have HO1495 := n2_
              have HO1500 := n3_
              have BK1483 := n4_
              have BK1486 := n5_
              have HB := n6_
              clear n0_ n1_ n2_ n3_ n4_ n5_ n6_
              (try clear hb)
              (try clear hb2)
              (try clear hk)
              (try clear hi)
              refine hK.out _ _ (c7_of BK1486.out rfl) (fun hHeld => ?_)
              clear hK K
              refine norm_ (a' := ?_) ?_ ?_
              rotate_left
              · show Act.put _ (some 42) _ = _
                simp only [Act.put, List.setIfInBounds_toArray, List.set_cons_zero, List.set_cons_succ, i64_w, i32_w]
                rfl
              refine pure_ (i := 7) (N := some 43) (v := ?_) (a' := ?_) #[true, true, true, true, true, true, true, true, false] rfl rfl (any_of HT_.out (by kernel_rfl)) (fun _ _ _ h => h) (Or.inl ⟨by rfl, ?_⟩) ?_ ?_
              rotate_left
              · intro w'
                go_simp
                with_reducible rfl
              rotate_left
              · simp only [Act.put, List.setIfInBounds_toArray, List.set_cons_zero, List.set_cons_succ, i64_w, i32_w]
                rfl
              refine pure_ (i := 8) (N := some 44) (v := ?_) (a' := ?_) #[true, true, true, true, true, true, true, true, true] rfl rfl (any_of HT_.out (by kernel_rfl)) (fun _ _ _ h => h) (Or.inl ⟨by rfl, ?_⟩) ?_ ?_
              rotate_left
              · intro w'
                go_simp
                with_reducible rfl
              rotate_left
              · simp only [Act.put, List.setIfInBounds_toArray, List.set_cons_zero, List.set_cons_succ, i64_w, i32_w]
                rfl
              refine done_ (done_of HT_.out (by kernel_rfl)) ?_
              try go_wp2
              go_meet
              case rel => exact ⟨_, H', ⟨by first | omega | exact Nat.le_refl _⟩, ⟨by (with_reducible repeat (first | refine blk_drewN ?_ _ | refine blk_drew ?_ | refine blk_alloc ?_ _)); exact BK1483.out⟩, ⟨by (with_reducible repeat (first | refine blk_drewN ?_ _ | refine blk_drew ?_ | refine blk_alloc ?_ _)); exact BK1486.out⟩, ⟨by repeat (first | (with_reducible first | exact HB.out | apply below_alloc | apply pw_below_drewN | apply below_drew1 | refine below_set ?_ GE1483.out | refine below_set ?_ GE1486.out) | exact HB.out)⟩⟩
            · replace c42 := Bool.eq_false_iff.mpr c42
              subst c42
              have H1 : (some false) = some true := by rw [if_neg (show ¬ (false = true) by decide)] at H; exact H
              clear H
              have H := H1
              clear H1
              exact absurd H (by simp)
          · rw [if_neg c39] at H
            have c39b0 : (t1485 == 0) = false := beq_eq_false_iff_ne.mpr c39
            have c39b1 : (t1485 != 0) = true := bne_iff_ne.mpr c39
            exact absurd H (by simp)
      case rest =>
        clear HC12
        try clear c1
        try clear c2
        try clear c2b0
        try clear c2b1
        try clear p2
        try clear c3
        try clear c4
        try clear c6
        try clear c7
        try clear c8
        try clear c11
        try clear c18
        try clear c22
        try clear c26
        try clear c26b0
        try clear c26b1
        try clear c28
        try clear c29
        try clear c29b0
        try clear c29b1
        try clear c30
        try clear c33
        try clear c36
        try clear c39
        try clear c39b0
        try clear c39b1
        try clear c42
        try clear hcz15_0
        try clear hcz19_0
        try clear hcz31_0
        try clear hcz34_0
        try clear hcz37_0
        try clear hfz15_0
        try clear hfz19_0
        try clear hfz31_0
        try clear hfz34_0
        try clear hfz37_0
        obtain ⟨kq, HA, HJ11, BK1483, BK1486, HB⟩ := hcut
        cases kq with
        | zero => exact absurd HA.out (by simp [chicorylaw06_ScalarBytes.j0])
        | succ kj11 =>
          have H := HA.out
          clear HA
          simp only [chicorylaw06_ScalarBytes.j0] at H
          have HC52 := Aside0.mk H
          clear H
          go_upto_region 12 with (fail)
          go_cut [52] (fun v52 wc => ∃ (kq : Nat) (x52_51 : Bool), v52 = .bool x52_51 ∧ Aside0 (chicorylaw06_ScalarBytes.j1 kq l0 t1482 x52_51 t1481 = some true) ∧ Aside0 (kq ≤ kj11) ∧ Aside0 (wc.heap[gb1483]? = some (.cells (sv t1481) 73 (0, 0))) ∧ Aside0 (wc.heap[gb1486]? = some (.cells (sv t1484) 73 (0, 0))) ∧ Aside0 (Below w.heap.size w wc))
          case first =>
            have H := HC52.out
            clear HC52
            by_cases c53 : (l0.length : Int) = 56
            · rw [if_pos c53] at H
              have c53b0 : ((l0.length : Int) == 56) = true := beq_iff_eq.mpr c53
              have c53b1 : ((l0.length : Int) != 56) = false := bne_eq_false_iff_eq.mpr c53
              clear c53
              (first | rw [c53b0] | (simp only [i64_w, i32_w]; rw [c53b0]) | skip)
              have H' := Aside0.mk H
              clear H
              go_wp2
              go_meet
              case rel => exact ⟨_, (false), (by first | rfl | (simp; done) | (simp [*]; done)), H', ⟨by have := HJ11.out; first | omega | exact Nat.le_refl _⟩, ⟨by (with_reducible repeat (first | refine blk_drewN ?_ _ | refine blk_drew ?_ | refine blk_alloc ?_ _)); exact BK1483.out⟩, ⟨by (with_reducible repeat (first | refine blk_drewN ?_ _ | refine blk_drew ?_ | refine blk_alloc ?_ _)); exact BK1486.out⟩, ⟨by repeat (first | (with_reducible first | exact HB.out | apply below_alloc | apply pw_below_drewN | apply below_drew1 | refine below_set ?_ GE1483.out | refine below_set ?_ GE1486.out) | exact HB.out)⟩⟩
            · rw [if_neg c53] at H
              have c53b0 : ((l0.length : Int) == 56) = false := beq_eq_false_iff_ne.mpr c53
              have c53b1 : ((l0.length : Int) != 56) = true := bne_iff_ne.mpr c53
              (first | rw [c53b0] | (simp only [i64_w, i32_w]; rw [c53b0]) | skip)
              have H' := Aside0.mk H
              clear H
              go_wp2
              go_meet
              case rel => exact ⟨_, (((l0.length : Int) != 57)), (by first | rfl | (simp; done) | (simp [*]; done)), H', ⟨by have := HJ11.out; first | omega | exact Nat.le_refl _⟩, ⟨by (with_reducible repeat (first | refine blk_drewN ?_ _ | refine blk_drew ?_ | refine blk_alloc ?_ _)); exact BK1483.out⟩, ⟨by (with_reducible repeat (first | refine blk_drewN ?_ _ | refine blk_drew ?_ | refine blk_alloc ?_ _)); exact BK1486.out⟩, ⟨by repeat (first | (with_reducible first | exact HB.out | apply below_alloc | apply pw_below_drewN | apply below_drew1 | refine below_set ?_ GE1483.out | refine below_set ?_ GE1486.out) | exact HB.out)⟩⟩
          case rest =>
            clear HC52
            try clear c1
            try clear c2
            try clear c2b0
            try clear c2b1
            try clear p2
            try clear c3
            try clear c4
            try clear c5
            try clear c6
            try clear c7
            try clear c8
            try clear c11
            try clear c18
            try clear c22
            try clear c26
            try clear c26b0
            try clear c26b1
            try clear c28
            try clear c29
            try clear c29b0
            try clear c29b1
            try clear c30
            try clear c33
            try clear c36
            try clear c39
            try clear c39b0
            try clear c39b1
            try clear c42
            try clear c53
            try clear c53b0
            try clear c53b1
            try clear hcz15_0
            try clear hcz19_0
            try clear hcz31_0
            try clear hcz34_0
            try clear hcz37_0
            try clear hfz15_0
            try clear hfz19_0
            try clear hfz31_0
            try clear hfz34_0
            try clear hfz37_0
            try clear p2
            obtain ⟨kq, x52_51, rfl, HA, HJ51, BK1483, BK1486, HB⟩ := hcut
            cases kq with
            | zero => exact absurd HA.out (by simp [chicorylaw06_ScalarBytes.j1])
            | succ kj51 =>
              have H := HA.out
              clear HA
              simp only [chicorylaw06_ScalarBytes.j1] at H
              by_cases c54 : x52_51 = true
              · subst c54
                have H1 : ((scalar_Zero.f kj51 t1481).bind fun t1502 => (if t1502 = true then (if t1482 = 11 then ((chicorylaw06_awake.f kj51).bind fun t1503 => (some t1503)) else (some false)) else (some false))) = some true := by rw [if_pos rfl] at H; exact H
                clear H
                have H := H1
                clear H1
                replace H := Option.bind_eq_some_iff.mp H
                obtain ⟨t1502, A550, H⟩ := H
                replace H : (if t1502 = true then (if t1482 = 11 then ((chicorylaw06_awake.f kj51).bind fun t1503 => (some t1503)) else (some false)) else (some false)) = some true := H
                have A55 := Aside0.mk A550
                clear A550
                by_cases c56 : t1502 = true
                · subst c56
                  have H1 : (if t1482 = 11 then ((chicorylaw06_awake.f kj51).bind fun t1503 => (some t1503)) else (some false)) = some true := by rw [if_pos rfl] at H; exact H
                  clear H
                  have H := H1
                  clear H1
                  by_cases c57 : t1482 = 11
                  · rw [if_pos c57] at H
                    have c57b0 : (t1482 == 11) = true := beq_iff_eq.mpr c57
                    have c57b1 : (t1482 != 11) = false := bne_eq_false_iff_eq.mpr c57
                    clear c57
                    replace H := Option.bind_eq_some_iff.mp H
                    obtain ⟨t1503, A580, H⟩ := H
                    replace H : (some t1503) = some true := H
                    have A58 := Aside0.mk A580
                    clear A580
                    obtain rfl := Option.some.inj H
                    have hnb59 := NB1483_1486.out
                    have hnc59 := NB1486_1483.out
                    obtain ⟨hcz60_0, hcz60_0_c1, hcz60_0_c2, hcz60_0_c3, hcz60_0_c4, hcz60_0_c5, hcz60_0_c6⟩ := c7_of (a := t1481) BK1483.out rfl
                    obtain ⟨hfz60_0, hfz60_0_c1, hfz60_0_c2, hfz60_0_c3, hfz60_0_c4, hfz60_0_c5, hfz60_0_c6⟩ := fz7 BK1483.out
                    go_wp2_with (first | ((with_reducible refine gate_callee (f := 77) rfl ?_); refine goesL_ (some 54) rfl rfl Try.func77 (by kernel_rfl) rfl #[.agg (sv t1481)] rfl (by (try simp only [List.map_toArray, List.map_cons, List.map_nil]); first | done | rfl | (simp only [List.length_drop, List.length_take]; rfl)) ?_; (with_reducible refine (scalar_Zero.calls kj51 t1481 true _ A55.out).mono ?_); rintro e w61 ⟨rfl, hb⟩; refine ⟨_, rfl, ?_⟩; have n0_ := Aside0.mk (blk_below (g := gb1483) (o := .cells (sv t1481) 73 (0, 0)) (by (with_reducible repeat (first | refine blk_drewN ?_ _ | refine blk_drew ?_ | refine blk_alloc ?_ _)); exact BK1483.out) hb); have n1_ := Aside0.mk (blk_below (g := gb1486) (o := .cells (sv t1484) 73 (0, 0)) (by (with_reducible repeat (first | refine blk_drewN ?_ _ | refine blk_drew ?_ | refine blk_alloc ?_ _)); exact BK1486.out) hb); have n2_ := Aside0.mk (below_step (by repeat (first | (with_reducible first | exact HB.out | apply below_alloc | apply pw_below_drewN | apply below_drew1 | refine below_set ?_ GE1483.out | refine below_set ?_ GE1486.out) | exact HB.out)) hb); clear BK1483; clear BK1486; clear HB; have BK1483 := n0_; have BK1486 := n1_; have HB := n2_; clear n0_ n1_ n2_; (try clear hb); (try clear hb2); (try clear hk); (try clear hi)) | (go_at_call 71; (with_reducible refine (chicorylaw06_awake.calls kj51  true _ A58.out).mono ?_); rintro e w62 ⟨rfl, hb⟩; have n0_ := Aside0.mk (blk_below (g := gb1483) (o := .cells (sv t1481) 73 (0, 0)) (by (with_reducible repeat (first | refine blk_drewN ?_ _ | refine blk_drew ?_ | refine blk_alloc ?_ _)); exact BK1483.out) hb); have n1_ := Aside0.mk (blk_below (g := gb1486) (o := .cells (sv t1484) 73 (0, 0)) (by (with_reducible repeat (first | refine blk_drewN ?_ _ | refine blk_drew ?_ | refine blk_alloc ?_ _)); exact BK1486.out) hb); have n2_ := Aside0.mk (below_step (by repeat (first | (with_reducible first | exact HB.out | apply below_alloc | apply pw_below_drewN | apply below_drew1 | refine below_set ?_ GE1483.out | refine below_set ?_ GE1486.out) | exact HB.out)) hb); clear BK1483; clear BK1486; clear HB; have BK1483 := n0_; have BK1486 := n1_; have HB := n2_; clear n0_ n1_ n2_; (try clear hb); (try clear hb2); (try clear hk); (try clear hi)))
                    go_ret
                    exact ⟨by first | rfl | (simp [errW_none, errW_some] <;> rfl) | (simp [*, errW_none, errW_some] <;> rfl), by repeat (first | (with_reducible first | exact HB.out | apply below_alloc | apply pw_below_drewN | apply below_drew1 | refine below_set ?_ GE1483.out | refine below_set ?_ GE1486.out) | exact HB.out)⟩
                  · rw [if_neg c57] at H
                    have c57b0 : (t1482 == 11) = false := beq_eq_false_iff_ne.mpr c57
                    have c57b1 : (t1482 != 11) = true := bne_iff_ne.mpr c57
                    exact absurd H (by simp)
                · replace c56 := Bool.eq_false_iff.mpr c56
                  subst c56
                  have H1 : (some false) = some true := by rw [if_neg (show ¬ (false = true) by decide)] at H; exact H
                  clear H
                  have H := H1
                  clear H1
                  exact absurd H (by simp)
              · replace c54 := Bool.eq_false_iff.mpr c54
                subst c54
                have H1 : ((chicoryref06_Fits.f kj51 l0).bind fun t1504 => (if t1504 = true then (if t1482 = 0 then ((chicoryref03_Cut.f kj51 l0).bind fun t1505 => ((chicorylaw06_Is.f kj51 t1481 t1505).bind fun t1508 => (if t1508 = true then ((chicorylaw06_awake.f kj51).bind fun t1509 => (some t1509)) else (some false)))) else (some false)) else ((scalar_Zero.f kj51 t1481).bind fun t1510 => (if t1510 = true then (if t1482 = 14 then ((chicorylaw06_awake.f kj51).bind fun t1511 => (some t1511)) else (some false)) else (some false))))) = some true := by rw [if_neg (show ¬ (false = true) by decide)] at H; exact H
                clear H
                have H := H1
                clear H1
                replace H := Option.bind_eq_some_iff.mp H
                obtain ⟨t1504, A690, H⟩ := H
                replace H : (if t1504 = true then (if t1482 = 0 then ((chicoryref03_Cut.f kj51 l0).bind fun t1505 => ((chicorylaw06_Is.f kj51 t1481 t1505).bind fun t1508 => (if t1508 = true then ((chicorylaw06_awake.f kj51).bind fun t1509 => (some t1509)) else (some false)))) else (some false)) else ((scalar_Zero.f kj51 t1481).bind fun t1510 => (if t1510 = true then (if t1482 = 14 then ((chicorylaw06_awake.f kj51).bind fun t1511 => (some t1511)) else (some false)) else (some false)))) = some true := H
                have A69 := Aside0.mk A690
                clear A690
                by_cases c70 : t1504 = true
                · subst c70
                  have H1 : (if t1482 = 0 then ((chicoryref03_Cut.f kj51 l0).bind fun t1505 => ((chicorylaw06_Is.f kj51 t1481 t1505).bind fun t1508 => (if t1508 = true then ((chicorylaw06_awake.f kj51).bind fun t1509 => (some t1509)) else (some false)))) else (some false)) = some true := by rw [if_pos rfl] at H; exact H
                  clear H
                  have H := H1
                  clear H1
                  by_cases c71 : t1482 = 0
                  · rw [if_pos c71] at H
                    have c71b0 : (t1482 == 0) = true := beq_iff_eq.mpr c71
                    have c71b1 : (t1482 != 0) = false := bne_eq_false_iff_eq.mpr c71
                    clear c71
                    replace H := Option.bind_eq_some_iff.mp H
                    obtain ⟨t1505, A720, H⟩ := H
                    replace H : ((chicorylaw06_Is.f kj51 t1481 t1505).bind fun t1508 => (if t1508 = true then ((chicorylaw06_awake.f kj51).bind fun t1509 => (some t1509)) else (some false))) = some true := H
                    have A72 := Aside0.mk A720
                    clear A720
                    replace H := Option.bind_eq_some_iff.mp H
                    obtain ⟨t1508, A730, H⟩ := H
                    replace H : (if t1508 = true then ((chicorylaw06_awake.f kj51).bind fun t1509 => (some t1509)) else (some false)) = some true := H
                    have A73 := Aside0.mk A730
                    clear A730
                    by_cases c74 : t1508 = true
                    · subst c74
                      have H1 : ((chicorylaw06_awake.f kj51).bind fun t1509 => (some t1509)) = some true := by rw [if_pos rfl] at H; exact H
                      clear H
                      have H := H1
                      clear H1
                      replace H := Option.bind_eq_some_iff.mp H
                      obtain ⟨t1509, A750, H⟩ := H
                      replace H : (some t1509) = some true := H
                      have A75 := Aside0.mk A750
                      clear A750
                      obtain rfl := Option.some.inj H
                      try go_wp2_with (first | ((with_reducible refine gate_callee (f := 87) rfl ?_); refine goesL_ (some 63) rfl rfl Try.func87 (by kernel_rfl) rfl #[.slice A0 l0.length c0] rfl (by (try simp only [List.map_toArray, List.map_cons, List.map_nil]); first | done | rfl | (simp only [List.length_drop, List.length_take]; rfl)) ?_; (with_reducible refine (chicoryref06_Fits.calls kj51 _ _ l0 true _ ?side1 ?side2 A69.out).mono ?_); (case side1 => repeat (first | exact (Kd.C_below HR0.out HB.out) | (with_reducible refine Kd.C_alloc ?_ _) | (with_reducible refine Kd.C_drewN ?_ _) | (with_reducible refine Kd.C_drew ?_))); (case side2 => exact HC0.out); rintro e w76 ⟨rfl, hb⟩; refine ⟨_, rfl, ?_⟩; have n0_ := Aside0.mk (blk_below (g := gb1483) (o := .cells (sv t1481) 73 (0, 0)) (by (with_reducible repeat (first | refine blk_drewN ?_ _ | refine blk_drew ?_ | refine blk_alloc ?_ _)); exact BK1483.out) hb); have n1_ := Aside0.mk (blk_below (g := gb1486) (o := .cells (sv t1484) 73 (0, 0)) (by (with_reducible repeat (first | refine blk_drewN ?_ _ | refine blk_drew ?_ | refine blk_alloc ?_ _)); exact BK1486.out) hb); have n2_ := Aside0.mk (below_step (by repeat (first | (with_reducible first | exact HB.out | apply below_alloc | apply pw_below_drewN | apply below_drew1 | refine below_set ?_ GE1483.out | refine below_set ?_ GE1486.out) | exact HB.out)) hb); clear BK1483; clear BK1486; clear HB; have BK1483 := n0_; have BK1486 := n1_; have HB := n2_; clear n0_ n1_ n2_; (try clear hb); (try clear hb2); (try clear hk); (try clear hi)))
                      have n0_ := Aside0.mk (blk_drew BK1483.out)
                      have n1_ := Aside0.mk (blk_drew BK1486.out)
                      have n2_ := Aside0.mk (below_drew1 HB.out)
                      clear BK1483
                      clear BK1486
                      clear HB
                      have BK1483 := n0_
                      have BK1486 := n1_
                      have HB := n2_
                      clear n0_ n1_ n2_
                      refine start_ (n := 12) (S := fun w' => c7 w' gb1483 t1481) (ds := []) #[false, false, false, false, false, false, false, false, false, false, false, false] (by kernel_rfl) rfl rfl (c7_of BK1483.out rfl) (fun hHeld => ?_); refine with_tabW chicorylaw06_ScalarBytes.tab16 chicorylaw06_ScalarBytes.bits16 (fun HT_ HW_ => ?_)
                      generalize w76.drew = w77 at BK1483 BK1486 HB hHeld ⊢
                      refine pure_ (i := 0) (N := some 74) (v := ?_) (a' := ?_) #[true, false, false, false, false, false, false, false, false, false, false, false] rfl rfl (any_of HT_.out (by kernel_rfl)) (fun _ _ _ h => h) (Or.inl ⟨by rfl, ?_⟩) ?_ ?_
                      rotate_left
                      · intro w'
                        go_simp
                        with_reducible rfl
                      rotate_left
                      · simp only [Act.put, List.setIfInBounds_toArray, List.set_cons_zero, List.set_cons_succ, i64_w, i32_w]
                        rfl
                      refine pure_ (i := 1) (N := some 75) (v := ?_) (a' := ?_) #[true, true, false, false, false, false, false, false, false, false, false, false] rfl rfl (any_of HT_.out (by kernel_rfl)) (fun _ _ _ h => h) (Or.inl ⟨by rfl, ?_⟩) ?_ ?_
                      rotate_left
                      · intro w'
                        go_simp
                        with_reducible rfl
                      rotate_left
                      · simp only [Act.put, List.setIfInBounds_toArray, List.set_cons_zero, List.set_cons_succ, i64_w, i32_w]
                        rfl
                      refine pure_ (i := 2) (N := some 76) (v := ?_) (a' := ?_) #[true, true, true, false, false, false, false, false, false, false, false, false] rfl rfl (any_of HT_.out (by kernel_rfl)) (fun _ _ _ h => h) (Or.inl ⟨by rfl, ?_⟩) ?_ ?_
                      rotate_left
                      · intro w'
                        go_simp
                        with_reducible rfl
                      rotate_left
                      · simp only [Act.put, List.setIfInBounds_toArray, List.set_cons_zero, List.set_cons_succ, i64_w, i32_w]
                        rfl
                      refine pure_ (i := 4) (N := some 78) (v := ?_) (a' := ?_) #[true, true, true, false, true, false, false, false, false, false, false, false] rfl rfl (any_of HT_.out (by kernel_rfl)) (fun _ _ _ h => h) (Or.inl ⟨by rfl, ?_⟩) ?_ ?_
                      rotate_left
                      · intro w'
                        go_simp
                        with_reducible rfl
                      rotate_left
                      · simp only [Act.put, List.setIfInBounds_toArray, List.set_cons_zero, List.set_cons_succ, i64_w, i32_w]
                        rfl
                      refine take_ (i := 3) (N := some 77) (v := ?_) (a' := ?_) #[true, true, true, true, true, false, false, false, false, false, false, false] rfl rfl (take_ofW HT_.out HW_.out (by kernel_rfl)) (fun _ _ _ h => h) (Or.inl ⟨by rfl, ?_⟩) hHeld ?_ ?_
                      rotate_left
                      · rintro w' ⟨s0, s0_c1, s0_c2, s0_c3, s0_c4, s0_c5, s0_c6⟩
                        go_simp
                        with_reducible rfl
                      rotate_left
                      · simp only [Act.put, List.setIfInBounds_toArray, List.set_cons_zero, List.set_cons_succ, i64_w, i32_w]
                        rfl
                      refine one_ (i := 5) (N := some 79) #[true, true, true, true, true, true, false, false, false, false, false, false] rfl rfl (one_of HT_.out (by kernel_rfl)) (by decide) (fun K hK => ?_)
                      refine goes_ Try.func88 (by kernel_rfl) rfl #[.slice A0 l0.length c0] (by rfl) rfl rfl (by (try simp only [List.map_toArray, List.map_cons, List.map_nil]); first | done | rfl | (simp only [List.length_drop, List.length_take]; rfl)) ?_
                      with_reducible refine (chicoryref03_Cut.calls kj51 (fun k_ => k_ < w.heap.size) _ _ l0 t1505 _ ?side1 A72.out).mono ?_
                      (case side1 => exact Kd.V_mk HC0.out (Kd.F_below (Kd.C_F (Kd.heap_int .u8) HR0.out) (by repeat (first | (with_reducible first | exact HB.out | apply below_alloc | apply pw_below_drewN | apply below_drew1 | refine below_set ?_ GE1483.out | refine below_set ?_ GE1486.out) | exact HB.out))))
                      rintro e w78 ⟨v1506, rfl, ho0, hb⟩
                      refine ⟨_, rfl, ?_⟩
                      have n0_ := Aside0.mk (Kd.V_lower (Kd.V_mono (ok' := fun k_ => k_ ≠ gb1483 ∧ k_ ≠ gb1486) ho0 (fun k_ hk_ => ⟨Or.elim hk_ (fun hs_ => fun e_ => Nat.not_le.2 hs_ (by rw [e_]; exact GW1483.out)) (fun hn_ => (Kd.freshB (g := gb1483) (o := .cells (sv t1481) 73 (0, 0)) (by (with_reducible repeat (first | refine blk_drewN ?_ _ | refine blk_drew ?_ | refine blk_alloc ?_ _)); exact BK1483.out) k_ hn_)), Or.elim hk_ (fun hs_ => fun e_ => Nat.not_le.2 hs_ (by rw [e_]; exact GW1486.out)) (fun hn_ => (Kd.freshB (g := gb1486) (o := .cells (sv t1484) 73 (0, 0)) (by (with_reducible repeat (first | refine blk_drewN ?_ _ | refine blk_drew ?_ | refine blk_alloc ?_ _)); exact BK1486.out) k_ hn_))⟩)) (below_size (by repeat (first | (with_reducible first | exact HB.out | apply below_alloc | apply pw_below_drewN | apply below_drew1 | refine below_set ?_ GE1483.out | refine below_set ?_ GE1486.out) | exact HB.out))))
                      have n1_ := Aside0.mk (blk_below (g := gb1483) (o := .cells (sv t1481) 73 (0, 0)) (by (with_reducible repeat (first | refine blk_drewN ?_ _ | refine blk_drew ?_ | refine blk_alloc ?_ _)); exact BK1483.out) hb)
                      have n2_ := Aside0.mk (blk_below (g := gb1486) (o := .cells (sv t1484) 73 (0, 0)) (by (with_reducible repeat (first | refine blk_drewN ?_ _ | refine blk_drew ?_ | refine blk_alloc ?_ _)); exact BK1486.out) hb)
                      have n3_ := Aside0.mk (below_step (by repeat (first | (with_reducible first | exact HB.out | apply below_alloc | apply pw_below_drewN | apply below_drew1 | refine below_set ?_ GE1483.out | refine below_set ?_ GE1486.out) | exact HB.out)) hb)
                      clear BK1483
                      clear BK1486
                      clear HB
                      have HO1507 := n0_
                      have BK1483 := n1_
                      have BK1486 := n2_
                      have HB := n3_
                      clear n0_ n1_ n2_ n3_
                      (try clear hb)
                      (try clear hb2)
                      (try clear hk)
                      (try clear hi)
                      (try clear ho0)
                      obtain ⟨Ao79, co79, eo79⟩ := Kd.V_slice HO1507.out
                      (first | subst eo79 | (injection eo79 with f1_ f2_ f3_; have f4_ := f1_.symm; have f5_ := f3_.symm; clear f1_ f2_ f3_; subst f4_; subst f5_))
                      refine hK.out _ _ (c7_of BK1483.out rfl) (fun hHeld => ?_)
                      clear hK K
                      refine norm_ (a' := ?_) ?_ ?_
                      rotate_left
                      · show Act.put _ (some 79) _ = _
                        simp only [Act.put, List.setIfInBounds_toArray, List.set_cons_zero, List.set_cons_succ, i64_w, i32_w]
                        rfl
                      refine one_ (i := 6) (N := some 80) #[true, true, true, true, true, true, true, false, false, false, false, false] rfl rfl (one_of HT_.out (by kernel_rfl)) (by decide) (fun K hK => ?_)
                      refine goes_ Try.func63 (by kernel_rfl) rfl #[.agg (sv t1481), .slice Ao79 t1505.length co79] (by rfl) rfl rfl (by (try simp only [List.map_toArray, List.map_cons, List.map_nil]); first | done | rfl | (simp only [List.length_drop, List.length_take]; rfl)) ?_
                      with_reducible refine (chicorylaw06_Is.calls kj51 t1481 _ _ t1505 true _ ?side1 ?side2 A73.out).mono ?_
                      (case side1 => repeat (first | exact (Kd.V_reads' HO1507.out).2.2 | (with_reducible refine Kd.C_alloc ?_ _) | (with_reducible refine Kd.C_drewN ?_ _) | (with_reducible refine Kd.C_drew ?_)))
                      (case side2 => exact (Kd.V_reads' HO1507.out).2.1)
                      rintro e w80 ⟨rfl, hb⟩
                      refine ⟨_, rfl, ?_⟩
                      have n0_ := Aside0.mk (Kd.V_below (by (with_reducible repeat (first | apply Kd.V_alloc | apply Kd.V_drewN | apply Kd.V_drew)); exact HO1507.out) hb)
                      have n1_ := Aside0.mk (blk_below (g := gb1483) (o := .cells (sv t1481) 73 (0, 0)) (by (with_reducible repeat (first | refine blk_drewN ?_ _ | refine blk_drew ?_ | refine blk_alloc ?_ _)); exact BK1483.out) hb)
                      have n2_ := Aside0.mk (blk_below (g := gb1486) (o := .cells (sv t1484) 73 (0, 0)) (by (with_reducible repeat (first | refine blk_drewN ?_ _ | refine blk_drew ?_ | refine blk_alloc ?_ _)); exact BK1486.out) hb)
                      have n3_ := Aside0.mk (below_step (by repeat (first | (with_reducible first | exact HB.out | apply below_alloc | apply pw_below_drewN | apply below_drew1 | refine below_set ?_ GE1483.out | refine below_set ?_ GE1486.out) | exact HB.out)) hb)
                      clear HO1507
                      clear BK1483
                      clear BK1486
                      clear HB
                      have HO1507 := n0_
                      have BK1483 := n1_
                      have BK1486 := n2_
                      have HB := n3_
                      clear n0_ n1_ n2_ n3_
                      (try clear hb)
                      (try clear hb2)
                      (try clear hk)
                      (try clear hi)
                      refine hK.out _ _ (c7_of BK1483.out rfl) (fun hHeld => ?_)
                      clear hK K
                      refine norm_ (a' := ?_) ?_ ?_
                      rotate_left
                      · show Act.put _ (some 80) _ = _
                        simp only [Act.put, List.setIfInBounds_toArray, List.set_cons_zero, List.set_cons_succ, i64_w, i32_w]
                        rfl
                      refine pure_ (i := 7) (N := some 81) (v := ?_) (a' := ?_) #[true, true, true, true, true, true, true, true, false, false, false, false] rfl rfl (any_of HT_.out (by kernel_rfl)) (fun _ _ _ h => h) (Or.inl ⟨by rfl, ?_⟩) ?_ ?_
                      rotate_left
                      · intro w'
                        go_simp
                        with_reducible rfl
                      rotate_left
                      · simp only [Act.put, List.setIfInBounds_toArray, List.set_cons_zero, List.set_cons_succ, i64_w, i32_w]
                        rfl
                      refine pure_ (i := 8) (N := some 82) (v := ?_) (a' := ?_) #[true, true, true, true, true, true, true, true, true, false, false, false] rfl rfl (any_of HT_.out (by kernel_rfl)) (fun _ _ _ h => h) (Or.inl ⟨by rfl, ?_⟩) ?_ ?_
                      rotate_left
                      · intro w'
                        go_simp
                        with_reducible rfl
                      rotate_left
                      · simp only [Act.put, List.setIfInBounds_toArray, List.set_cons_zero, List.set_cons_succ, i64_w, i32_w]
                        rfl
                      refine one_ (i := 9) (N := some 83) #[true, true, true, true, true, true, true, true, true, true, false, false] rfl rfl (one_of HT_.out (by kernel_rfl)) (by decide) (fun K hK => ?_)
                      refine goes_ Try.func71 (by kernel_rfl) rfl #[] (by rfl) rfl rfl (by (try simp only [List.map_toArray, List.map_cons, List.map_nil]); first | done | rfl | (simp only [List.length_drop, List.length_take]; rfl)) ?_
                      with_reducible refine (chicorylaw06_awake.calls kj51  true _ A75.out).mono ?_
                      rintro e w81 ⟨rfl, hb⟩
                      refine ⟨_, rfl, ?_⟩
                      have n0_ := Aside0.mk (Kd.V_below (by (with_reducible repeat (first | apply Kd.V_alloc | apply Kd.V_drewN | apply Kd.V_drew)); exact HO1507.out) hb)
                      have n1_ := Aside0.mk (blk_below (g := gb1483) (o := .cells (sv t1481) 73 (0, 0)) (by (with_reducible repeat (first | refine blk_drewN ?_ _ | refine blk_drew ?_ | refine blk_alloc ?_ _)); exact BK1483.out) hb)
                      have n2_ := Aside0.mk (blk_below (g := gb1486) (o := .cells (sv t1484) 73 (0, 0)) (by (with_reducible repeat (first | refine blk_drewN ?_ _ | refine blk_drew ?_ | refine blk_alloc ?_ _)); exact BK1486.out) hb)
                      have n3_ := Aside0.mk (below_step (by repeat (first | (with_reducible first | exact HB.out | apply below_alloc | apply pw_below_drewN | apply below_drew1 | refine below_set ?_ GE1483.out | refine below_set ?_ GE1486.out) | exact HB.out)) hb)
                      clear HO1507
                      clear BK1483
                      clear BK1486
                      clear HB
                      have HO1507 := n0_
                      have BK1483 := n1_
                      have BK1486 := n2_
                      have HB := n3_
                      clear n0_ n1_ n2_ n3_
                      (try clear hb)
                      (try clear hb2)
                      (try clear hk)
                      (try clear hi)
                      refine hK.out _ _ (c7_of BK1483.out rfl) (fun hHeld => ?_)
                      clear hK K
                      refine norm_ (a' := ?_) ?_ ?_
                      rotate_left
                      · show Act.put _ (some 83) _ = _
                        simp only [Act.put, List.setIfInBounds_toArray, List.set_cons_zero, List.set_cons_succ, i64_w, i32_w]
                        rfl
                      refine pure_ (i := 10) (N := some 84) (v := ?_) (a' := ?_) #[true, true, true, true, true, true, true, true, true, true, true, false] rfl rfl (any_of HT_.out (by kernel_rfl)) (fun _ _ _ h => h) (Or.inl ⟨by rfl, ?_⟩) ?_ ?_
                      rotate_left
                      · intro w'
                        go_simp
                        with_reducible rfl
                      rotate_left
                      · simp only [Act.put, List.setIfInBounds_toArray, List.set_cons_zero, List.set_cons_succ, i64_w, i32_w]
                        rfl
                      refine pure_ (i := 11) (N := some 2) (v := ?_) (a' := ?_) #[true, true, true, true, true, true, true, true, true, true, true, true] rfl rfl (any_of HT_.out (by kernel_rfl)) (fun _ _ _ h => h) (Or.inl ⟨by rfl, ?_⟩) ?_ ?_
                      rotate_left
                      · intro w'
                        go_simp
                        with_reducible rfl
                      rotate_left
                      · simp only [Act.put, List.setIfInBounds_toArray, List.set_cons_zero, List.set_cons_succ, i64_w, i32_w]
                        rfl
                      refine done_ (done_of HT_.out (by kernel_rfl)) ?_
                      try go_wp2
                      go_ret
                      exact ⟨by first | rfl | (simp [errW_none, errW_some] <;> rfl) | (simp [*, errW_none, errW_some] <;> rfl), by repeat (first | (with_reducible first | exact HB.out | apply below_alloc | apply pw_below_drewN | apply below_drew1 | refine below_set ?_ GE1483.out | refine below_set ?_ GE1486.out) | exact HB.out)⟩
                    · replace c74 := Bool.eq_false_iff.mpr c74
                      subst c74
                      have H1 : (some false) = some true := by rw [if_neg (show ¬ (false = true) by decide)] at H; exact H
                      clear H
                      have H := H1
                      clear H1
                      exact absurd H (by simp)
                  · rw [if_neg c71] at H
                    have c71b0 : (t1482 == 0) = false := beq_eq_false_iff_ne.mpr c71
                    have c71b1 : (t1482 != 0) = true := bne_iff_ne.mpr c71
                    exact absurd H (by simp)
                · replace c70 := Bool.eq_false_iff.mpr c70
                  subst c70
                  have H1 : ((scalar_Zero.f kj51 t1481).bind fun t1510 => (if t1510 = true then (if t1482 = 14 then ((chicorylaw06_awake.f kj51).bind fun t1511 => (some t1511)) else (some false)) else (some false))) = some true := by rw [if_neg (show ¬ (false = true) by decide)] at H; exact H
                  clear H
                  have H := H1
                  clear H1
                  replace H := Option.bind_eq_some_iff.mp H
                  obtain ⟨t1510, A890, H⟩ := H
                  replace H : (if t1510 = true then (if t1482 = 14 then ((chicorylaw06_awake.f kj51).bind fun t1511 => (some t1511)) else (some false)) else (some false)) = some true := H
                  have A89 := Aside0.mk A890
                  clear A890
                  by_cases c90 : t1510 = true
                  · subst c90
                    have H1 : (if t1482 = 14 then ((chicorylaw06_awake.f kj51).bind fun t1511 => (some t1511)) else (some false)) = some true := by rw [if_pos rfl] at H; exact H
                    clear H
                    have H := H1
                    clear H1
                    by_cases c91 : t1482 = 14
                    · rw [if_pos c91] at H
                      have c91b0 : (t1482 == 14) = true := beq_iff_eq.mpr c91
                      have c91b1 : (t1482 != 14) = false := bne_eq_false_iff_eq.mpr c91
                      clear c91
                      replace H := Option.bind_eq_some_iff.mp H
                      obtain ⟨t1511, A920, H⟩ := H
                      replace H : (some t1511) = some true := H
                      have A92 := Aside0.mk A920
                      clear A920
                      obtain rfl := Option.some.inj H
                      go_wp2_with (first | ((with_reducible refine gate_callee (f := 87) rfl ?_); refine goesL_ (some 63) rfl rfl Try.func87 (by kernel_rfl) rfl #[.slice A0 l0.length c0] rfl (by (try simp only [List.map_toArray, List.map_cons, List.map_nil]); first | done | rfl | (simp only [List.length_drop, List.length_take]; rfl)) ?_; (with_reducible refine (chicoryref06_Fits.calls kj51 _ _ l0 false _ ?side1 ?side2 A69.out).mono ?_); (case side1 => repeat (first | exact (Kd.C_below HR0.out HB.out) | (with_reducible refine Kd.C_alloc ?_ _) | (with_reducible refine Kd.C_drewN ?_ _) | (with_reducible refine Kd.C_drew ?_))); (case side2 => exact HC0.out); rintro e w93 ⟨rfl, hb⟩; refine ⟨_, rfl, ?_⟩; have n0_ := Aside0.mk (blk_below (g := gb1483) (o := .cells (sv t1481) 73 (0, 0)) (by (with_reducible repeat (first | refine blk_drewN ?_ _ | refine blk_drew ?_ | refine blk_alloc ?_ _)); exact BK1483.out) hb); have n1_ := Aside0.mk (blk_below (g := gb1486) (o := .cells (sv t1484) 73 (0, 0)) (by (with_reducible repeat (first | refine blk_drewN ?_ _ | refine blk_drew ?_ | refine blk_alloc ?_ _)); exact BK1486.out) hb); have n2_ := Aside0.mk (below_step (by repeat (first | (with_reducible first | exact HB.out | apply below_alloc | apply pw_below_drewN | apply below_drew1 | refine below_set ?_ GE1483.out | refine below_set ?_ GE1486.out) | exact HB.out)) hb); clear BK1483; clear BK1486; clear HB; have BK1483 := n0_; have BK1486 := n1_; have HB := n2_; clear n0_ n1_ n2_; (try clear hb); (try clear hb2); (try clear hk); (try clear hi); have hnb94 := NB1483_1486.out; have hnc94 := NB1486_1483.out; obtain ⟨hcz95_0, hcz95_0_c1, hcz95_0_c2, hcz95_0_c3, hcz95_0_c4, hcz95_0_c5, hcz95_0_c6⟩ := c7_of (a := t1481) BK1483.out rfl; obtain ⟨hfz95_0, hfz95_0_c1, hfz95_0_c2, hfz95_0_c3, hfz95_0_c4, hfz95_0_c5, hfz95_0_c6⟩ := fz7 BK1483.out) | ((with_reducible refine gate_callee (f := 77) rfl ?_); refine goesL_ (some 66) rfl rfl Try.func77 (by kernel_rfl) rfl #[.agg (sv t1481)] rfl (by (try simp only [List.map_toArray, List.map_cons, List.map_nil]); first | done | rfl | (simp only [List.length_drop, List.length_take]; rfl)) ?_; (with_reducible refine (scalar_Zero.calls kj51 t1481 true _ A89.out).mono ?_); rintro e w96 ⟨rfl, hb⟩; refine ⟨_, rfl, ?_⟩; have n0_ := Aside0.mk (blk_below (g := gb1483) (o := .cells (sv t1481) 73 (0, 0)) (by (with_reducible repeat (first | refine blk_drewN ?_ _ | refine blk_drew ?_ | refine blk_alloc ?_ _)); exact BK1483.out) hb); have n1_ := Aside0.mk (blk_below (g := gb1486) (o := .cells (sv t1484) 73 (0, 0)) (by (with_reducible repeat (first | refine blk_drewN ?_ _ | refine blk_drew ?_ | refine blk_alloc ?_ _)); exact BK1486.out) hb); have n2_ := Aside0.mk (below_step (by repeat (first | (with_reducible first | exact HB.out | apply below_alloc | apply pw_below_drewN | apply below_drew1 | refine below_set ?_ GE1483.out | refine below_set ?_ GE1486.out) | exact HB.out)) hb); clear BK1483; clear BK1486; clear HB; have BK1483 := n0_; have BK1486 := n1_; have HB := n2_; clear n0_ n1_ n2_; (try clear hb); (try clear hb2); (try clear hk); (try clear hi)) | (go_at_call 71; (with_reducible refine (chicorylaw06_awake.calls kj51  true _ A92.out).mono ?_); rintro e w97 ⟨rfl, hb⟩; have n0_ := Aside0.mk (blk_below (g := gb1483) (o := .cells (sv t1481) 73 (0, 0)) (by (with_reducible repeat (first | refine blk_drewN ?_ _ | refine blk_drew ?_ | refine blk_alloc ?_ _)); exact BK1483.out) hb); have n1_ := Aside0.mk (blk_below (g := gb1486) (o := .cells (sv t1484) 73 (0, 0)) (by (with_reducible repeat (first | refine blk_drewN ?_ _ | refine blk_drew ?_ | refine blk_alloc ?_ _)); exact BK1486.out) hb); have n2_ := Aside0.mk (below_step (by repeat (first | (with_reducible first | exact HB.out | apply below_alloc | apply pw_below_drewN | apply below_drew1 | refine below_set ?_ GE1483.out | refine below_set ?_ GE1486.out) | exact HB.out)) hb); clear BK1483; clear BK1486; clear HB; have BK1483 := n0_; have BK1486 := n1_; have HB := n2_; clear n0_ n1_ n2_; (try clear hb); (try clear hb2); (try clear hk); (try clear hi)))
                      go_ret
                      exact ⟨by first | rfl | (simp [errW_none, errW_some] <;> rfl) | (simp [*, errW_none, errW_some] <;> rfl), by repeat (first | (with_reducible first | exact HB.out | apply below_alloc | apply pw_below_drewN | apply below_drew1 | refine below_set ?_ GE1483.out | refine below_set ?_ GE1486.out) | exact HB.out)⟩
                    · rw [if_neg c91] at H
                      have c91b0 : (t1482 == 14) = false := beq_eq_false_iff_ne.mpr c91
                      have c91b1 : (t1482 != 14) = true := bne_iff_ne.mpr c91
                      exact absurd H (by simp)
                  · replace c90 := Bool.eq_false_iff.mpr c90
                    subst c90
                    have H1 : (some false) = some true := by rw [if_neg (show ¬ (false = true) by decide)] at H; exact H
                    clear H
                    have H := H1
                    clear H1
                    exact absurd H (by simp)
    · replace c11 := Bool.eq_false_iff.mpr c11
      subst c11
      have H1 : (some false) = some true := by rw [if_neg (show ¬ (false = true) by decide)] at H; exact H
      clear H
      have H := H1
      clear H1
      exact absurd H (by simp)
/-- THE ONE PURE STATEMENT of chicorylaw06_ScalarBytes: yours. -/
def chicorylaw06_ScalarBytes.Pure : Prop := ∀ (l0 : List Int), l0.length ≤ maxLen → l0.length * 1 ≤ 140737488351232 → (∀ x ∈ l0, (Lit.int .u8 x).wf = true) → ∃ k, chicorylaw06_ScalarBytes.f k l0 = some true
theorem chicorylaw06_ScalarBytes.walk (P : chicorylaw06_ScalarBytes.Pure) (a0 : Option Addr) (len0 cap0 : Nat) (z0 : List Int) (w : World) (w0 : (a0 = none ∧ len0 = 0 ∧ cap0 = 0 ∧ z0 = []) ∨ ∃ x, a0 = some x ∧ len0 ≤ cap0 ∧ cap0 ≤ maxLen ∧ z0.length = cap0 ∧ (∀ i, i < z0.length → w.cell? (x.add i) = some (.int .u8 (z0.getD i 0))) ∧ ∀ n ∈ z0, (Lit.int .u8 n).wf = true) (y0 : len0 * 1 ≤ 140737488351232) :
    Calls Try.prog 22 #[.slice a0 len0 cap0] w fun e w' => e = .returned (.bool true) ∧ Below w.heap.size w w' := by
  obtain ⟨l0, rfl, hr0, hm0, hw0, hc0⟩ := ReadsInt.ofRowC w0
  obtain ⟨k, h⟩ := P l0 hm0 y0 hw0
  refine (chicorylaw06_ScalarBytes.calls k _ _ l0 w (Kd.C_of_reads (d := (0 : Int)) (h1 := fun _ => rfl) hr0) hc0 h).mono ?_
  rintro e w' ⟨rfl, hd⟩
  exact ⟨rfl, hd⟩
end Go.Proofs.Ytdaehflffecllaa.N
namespace Go.Proofs.Ytdaehflffecllaa.N
open Go.RowKit Go.Proofs.YtdaehflffecllaaW.PrintWords Go.Proofs.YtdaehflffecllaaW.PrintLast Go.Proofs.YtdaehflffecllaaW.PrintMore
attribute [local go_sem] max2_int min2_int max_two min_two max_three min_three max_four min_four   -- for this text's walks alone
set_option linter.unusedVariables false
set_option linter.unusedSimpArgs false
end Go.Proofs.Ytdaehflffecllaa.N
namespace Go.Proofs.Ytdaehflffecllaa.N
open Go.RowKit Go.Proofs.YtdaehflffecllaaW.PrintWords Go.Proofs.YtdaehflffecllaaW.PrintLast Go.Proofs.YtdaehflffecllaaW.PrintMore
attribute [local go_sem] max2_int min2_int max_two min_two max_three min_three max_four min_four   -- for this text's walks alone
set_option linter.unusedVariables false
set_option linter.unusedSimpArgs false
end Go.Proofs.Ytdaehflffecllaa.N
namespace Go.Proofs.Ytdaehflffecllaa.N
open Go.RowKit Go.Proofs.YtdaehflffecllaaW.PrintWords Go.Proofs.YtdaehflffecllaaW.PrintLast Go.Proofs.YtdaehflffecllaaW.PrintMore
attribute [local go_sem] max2_int min2_int max_two min_two max_three min_three max_four min_four   -- for this text's walks alone
set_option linter.unusedVariables false
set_option linter.unusedSimpArgs false
end Go.Proofs.Ytdaehflffecllaa.N
namespace Go.Proofs.Ytdaehflffecllaa.N
open Go.RowKit Go.Proofs.YtdaehflffecllaaW.PrintWords Go.Proofs.YtdaehflffecllaaW.PrintLast Go.Proofs.YtdaehflffecllaaW.PrintMore
attribute [local go_sem] max2_int min2_int max_two min_two max_three min_three max_four min_four   -- for this text's walks alone
set_option linter.unusedVariables false
set_option linter.unusedSimpArgs false
end Go.Proofs.Ytdaehflffecllaa.N
