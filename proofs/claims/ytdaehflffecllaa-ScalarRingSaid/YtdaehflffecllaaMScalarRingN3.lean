/- The law ScalarRing returns true whatever the input: N3 of its proof; no condition. (Joined by wip/shake.py.) -/
import Derived.Test.YtdaehflffecllaaMScalarRingNx0
import Derived.Test.YtdaehflffecllaaMScalarRingN1
import Derived.Test.YtdaehflffecllaaMScalarRingN2
namespace Go.Proofs.Ytdaehflffecllaa.N
open Go.RowKit Go.Proofs.YtdaehflffecllaaW.PrintWords Go.Proofs.YtdaehflffecllaaW.PrintLast Go.Proofs.YtdaehflffecllaaW.PrintMore
attribute [local go_sem] max2_int min2_int max_two min_two max_three min_three max_four min_four   -- for this text's walks alone
set_option linter.unusedVariables false
set_option linter.unusedSimpArgs false
mutual
def chicorylaw06_ScalarRing.j0 : Nat → Bool → List Int → List Int → List Int → Option (Bool)
  | 0, _, _, _, _ => none
  | k + 1, x42, x1415000, x1418000, x1421000 => if x42 = true then (some false) else ((scalar_Add.f k x1415000 x1418000).bind fun t1421 => ((scalar_Mul.f k x1415000 x1418000).bind fun t1423 => ((scalar_Add.f k x1418000 x1415000).bind fun t1425 => ((scalar_Equal.f k t1421 t1425).bind fun t1426 => (if t1426 = true then ((scalar_Mul.f k x1418000 x1415000).bind fun t1427 => ((scalar_Equal.f k t1423 t1427).bind fun t1428 => (if t1428 = true then ((scalar_Add.f k t1421 x1421000).bind fun t1429 => ((scalar_Add.f k x1418000 x1421000).bind fun t1430 => ((scalar_Add.f k x1415000 t1430).bind fun t1431 => ((scalar_Equal.f k t1429 t1431).bind fun t1432 => (if t1432 = true then ((scalar_Mul.f k t1423 x1421000).bind fun t1433 => ((scalar_Mul.f k x1418000 x1421000).bind fun t1434 => ((scalar_Mul.f k x1415000 t1434).bind fun t1435 => ((scalar_Equal.f k t1433 t1435).bind fun t1436 => (chicorylaw06_ScalarRing.j1 k (!t1436) x1415000 x1418000 x1421000 t1421))))) else (chicorylaw06_ScalarRing.j1 k true x1415000 x1418000 x1421000 t1421)))))) else (chicorylaw06_ScalarRing.j1 k true x1415000 x1418000 x1421000 t1421)))) else (chicorylaw06_ScalarRing.j1 k true x1415000 x1418000 x1421000 t1421))))))
def chicorylaw06_ScalarRing.j1 : Nat → Bool → List Int → List Int → List Int → List Int → Option (Bool)
  | 0, _, _, _, _, _ => none
  | k + 1, x86, x1415000, x1418000, x1421000, x1423000 => if x86 = true then (some false) else ((scalar_Mul.f k x1423000 x1421000).bind fun t1437 => ((scalar_Mul.f k x1415000 x1421000).bind fun t1438 => ((scalar_Mul.f k x1418000 x1421000).bind fun t1439 => ((scalar_Add.f k t1438 t1439).bind fun t1440 => ((scalar_Equal.f k t1437 t1440).bind fun t1441 => (if t1441 = true then ((scalar_Sub.f k x1423000 x1418000).bind fun t1442 => ((scalar_Equal.f k t1442 x1415000).bind fun t1443 => (if t1443 = true then ((scalar_Int.f k 1).bind fun t1444 => ((scalar_Mul.f k x1415000 t1444).bind fun t1445 => ((scalar_Equal.f k t1445 x1415000).bind fun t1446 => (chicorylaw06_ScalarRing.j2 k (!t1446) x1415000)))) else (chicorylaw06_ScalarRing.j2 k true x1415000)))) else (chicorylaw06_ScalarRing.j2 k true x1415000)))))))
def chicorylaw06_ScalarRing.j2 : Nat → Bool → List Int → Option (Bool)
  | 0, _, _ => none
  | k + 1, x114, x1415000 => if x114 = true then (some false) else ((scalar_Half.f k x1415000).bind fun t1447 => ((scalar_Inverse.f k x1415000).bind fun t1449 => ((scalar_Mul.f k x1415000 t1449).bind fun t1451 => ((scalar_Int.f k 1).bind fun t1452 => ((scalar_Equal.f k t1451 t1452).bind fun t1453 => ((scalar_Add.f k t1447 t1447).bind fun t1454 => ((scalar_Equal.f k t1454 x1415000).bind fun t1455 => (if t1455 = true then ((scalar_Zero.f k x1415000).bind fun t1456 => (if (t1453 != t1456) = true then (if t1453 = true then ((chicorylaw06_awake.f k).bind fun t1457 => (some t1457)) else ((scalar_Zero.f k t1449).bind fun t1458 => (if t1458 = true then ((chicorylaw06_awake.f k).bind fun t1459 => (some t1459)) else (some false)))) else (some false))) else (some false)))))))))
end
def chicorylaw06_ScalarRing.f (k : Nat) (a0_0 : List Int) (a1_0 : List Int) (a2_0 : List Int) : Option (Bool) := (chicorylaw06_Made.f k a0_0).bind fun bt1412 => ((chicorylaw06_Made.f k a1_0).bind fun bt1415 => ((chicorylaw06_Made.f k a2_0).bind fun bt1418 => (if bt1412.2 = true then (if bt1415.2 = true then (chicorylaw06_ScalarRing.j0 k (!bt1418.2) bt1412.1 bt1415.1 bt1418.1) else (chicorylaw06_ScalarRing.j0 k true bt1412.1 bt1415.1 bt1418.1)) else (chicorylaw06_ScalarRing.j0 k true bt1412.1 bt1415.1 bt1418.1))))
def chicorylaw06_ScalarRing.T8 : Bool × List (List Nat × List Nat) := (true, [([], []), ([], []), ([], []), ([1, 2], [1, 2]), ([0, 3, 3], [0, 3]), ([4], [4]), ([5, 4], [5]), ([6], [6]), ([6], [6]), ([6], [6]), ([8, 9, 6, 6], [6, 8, 9]), ([7, 10, 10, 6], [6, 7, 10]), ([11, 6], [6, 11]), ([6, 12], [6, 12]), ([13, 11], [13]), ([14], [14]), ([14], [14]), ([15, 16, 14, 14], [14, 15, 16]), ([14], [14]), ([14], [14]), ([14], [14]), ([19, 20, 17, 14], [14, 19, 20]), ([18, 21, 21, 14], [14, 18, 21]), ([17, 22, 22, 14], [14, 17, 22]), ([23, 14], [14, 23]), ([14, 24], [14, 24]), ([25, 23], [25]), ([26], [26]), ([26], [26]), ([27, 28, 26, 26], [26, 27, 28]), ([26], [26]), ([26], [26]), ([26], [26]), ([31, 32, 29, 26], [26, 31, 32]), ([30, 33, 33, 26], [26, 30, 33]), ([29, 34, 34, 26], [26, 29, 34]), ([35, 26], [26, 35]), ([26, 36], [26, 36])])
def chicorylaw06_ScalarRing.B8 : List Nat := [0, 0, 0, 6, 15, 31, 63, 127, 127, 127, 895, 2047, 4095, 8191, 16383, 32767, 32767, 131071, 32767, 32767, 32767, 1835007, 4194303, 8388607, 16777215, 33554431, 67108863, 134217727, 134217727, 536870911, 134217727, 134217727, 134217727, 7516192767, 17179869183, 34359738367, 68719476735, 137438953471]
theorem chicorylaw06_ScalarRing.tab8 : rtab .any (opsOf Try.f21 8) = chicorylaw06_ScalarRing.T8 := by kernel_rfl
theorem chicorylaw06_ScalarRing.bits8 : waitsOk chicorylaw06_ScalarRing.T8.2 chicorylaw06_ScalarRing.B8 = true := by kernel_rfl
def chicorylaw06_ScalarRing.T10 : Bool × List (List Nat × List Nat) := (true, [([], []), ([], []), ([0, 1], [0, 1]), ([], []), ([], []), ([3, 4, 2], [3, 4]), ([], []), ([], []), ([6, 7, 5], [6, 7]), ([5, 8, 8], [5, 8]), ([2, 9, 9], [2, 9]), ([10], [10]), ([11, 10], [11]), ([12], [12]), ([12], [12]), ([13, 14, 12, 12], [12, 13, 14]), ([12], [12]), ([15, 16, 15, 12], [12, 15, 16]), ([17, 12], [12, 17]), ([12, 18], [12, 18]), ([19, 17], [19]), ([20], [20]), ([20, 20], [20]), ([21, 22, 22, 20], [20, 21, 22]), ([20], [20]), ([23, 24, 23, 20], [20, 23, 24]), ([25, 20], [20, 25]), ([20, 26], [20, 26])])
def chicorylaw06_ScalarRing.B10 : List Nat := [0, 0, 3, 0, 0, 31, 0, 0, 255, 511, 1023, 2047, 4095, 8191, 8191, 32767, 8191, 131071, 262143, 524287, 1048575, 2097151, 2097151, 8388607, 2097151, 33554431, 67108863, 134217727]
theorem chicorylaw06_ScalarRing.tab10 : rtab .any (opsOf Try.f21 10) = chicorylaw06_ScalarRing.T10 := by kernel_rfl
theorem chicorylaw06_ScalarRing.bits10 : waitsOk chicorylaw06_ScalarRing.T10.2 chicorylaw06_ScalarRing.B10 = true := by kernel_rfl
def chicorylaw06_ScalarRing.T15 : Bool × List (List Nat × List Nat) := (true, [([], []), ([], []), ([0, 1], [0, 1]), ([], []), ([2, 3, 2], [2, 3]), ([4, 4], [4]), ([5], [5]), ([5], [5]), ([7, 5, 5], [5, 7]), ([6, 8, 5], [5, 6, 8]), ([5, 9], [5, 9]), ([10, 8], [10]), ([11], [11]), ([12, 11, 11], [11, 12]), ([13], [13]), ([14, 13, 13], [13, 14]), ([13, 15, 11], [11, 13, 15]), ([11, 16], [11, 16]), ([17, 15], [17]), ([18, 18], [18]), ([18, 19], [18, 19]), ([20, 19, 0, 1, 2, 3, 4, 5, 6, 7, 8, 9, 10, 11, 12, 13, 14, 15, 16, 17, 18, 19, 20], [20])])
def chicorylaw06_ScalarRing.B15 : List Nat := [0, 0, 3, 0, 15, 31, 63, 63, 191, 511, 1023, 2047, 4095, 8191, 16383, 32767, 65535, 131071, 262143, 524287, 1048575, 2097151]
theorem chicorylaw06_ScalarRing.tab15 : rtab .any (opsOf Try.f21 15) = chicorylaw06_ScalarRing.T15 := by kernel_rfl
theorem chicorylaw06_ScalarRing.bits15 : waitsOk chicorylaw06_ScalarRing.T15.2 chicorylaw06_ScalarRing.B15 = true := by kernel_rfl
set_option maxHeartbeats 8000000 in
set_option maxRecDepth 100000 in
theorem chicorylaw06_ScalarRing.calls (k : Nat) (a0_0 : List Int) (a1_0 : List Int) (a2_0 : List Int) (w : World) (h : chicorylaw06_ScalarRing.f k a0_0 a1_0 a2_0 = some true) :
    Calls Try.prog 21 #[.agg (rv a0_0), .agg (rv a1_0), .agg (rv a2_0)] w fun e w' => e = .returned (.bool true) ∧ Below w.heap.size w w' := by
  have hu70 := Try.underlying70
  have hu73 := Try.underlying73
  have HB := Aside0.mk (Below.refl w.heap.size w)
  have H : ((chicorylaw06_Made.f k a0_0).bind fun bt1412 => ((chicorylaw06_Made.f k a1_0).bind fun bt1415 => ((chicorylaw06_Made.f k a2_0).bind fun bt1418 => (if bt1412.2 = true then (if bt1415.2 = true then (chicorylaw06_ScalarRing.j0 k (!bt1418.2) bt1412.1 bt1415.1 bt1418.1) else (chicorylaw06_ScalarRing.j0 k true bt1412.1 bt1415.1 bt1418.1)) else (chicorylaw06_ScalarRing.j0 k true bt1412.1 bt1415.1 bt1418.1))))) = some true := h
  clear h
  replace H := Option.bind_eq_some_iff.mp H
  obtain ⟨⟨t1412, t1413⟩, A40, H⟩ := H
  replace H : ((chicorylaw06_Made.f k a1_0).bind fun bt1415 => ((chicorylaw06_Made.f k a2_0).bind fun bt1418 => (if t1413 = true then (if bt1415.2 = true then (chicorylaw06_ScalarRing.j0 k (!bt1418.2) t1412 bt1415.1 bt1418.1) else (chicorylaw06_ScalarRing.j0 k true t1412 bt1415.1 bt1418.1)) else (chicorylaw06_ScalarRing.j0 k true t1412 bt1415.1 bt1418.1)))) = some true := H
  have A4 := Aside0.mk A40
  clear A40
  replace H := Option.bind_eq_some_iff.mp H
  obtain ⟨⟨t1415, t1416⟩, A50, H⟩ := H
  replace H : ((chicorylaw06_Made.f k a2_0).bind fun bt1418 => (if t1413 = true then (if t1416 = true then (chicorylaw06_ScalarRing.j0 k (!bt1418.2) t1412 t1415 bt1418.1) else (chicorylaw06_ScalarRing.j0 k true t1412 t1415 bt1418.1)) else (chicorylaw06_ScalarRing.j0 k true t1412 t1415 bt1418.1))) = some true := H
  have A5 := Aside0.mk A50
  clear A50
  replace H := Option.bind_eq_some_iff.mp H
  obtain ⟨⟨t1418, t1419⟩, A60, H⟩ := H
  replace H : (if t1413 = true then (if t1416 = true then (chicorylaw06_ScalarRing.j0 k (!t1419) t1412 t1415 t1418) else (chicorylaw06_ScalarRing.j0 k true t1412 t1415 t1418)) else (chicorylaw06_ScalarRing.j0 k true t1412 t1415 t1418)) = some true := H
  have A6 := Aside0.mk A60
  clear A60
  have HC7 := Aside0.mk H
  clear H
  go_enter Try.func21, Try.ntmps21
  go_upto_region 4 with (first | ((with_reducible refine gate_dst (N := 19) rfl ?_); refine wpList_load_row rfl 70 (.tmp 3) rfl gb1409 rfl 70 (rv a0_0) (0, 0) _ (by (with_reducible repeat (first | refine blk_drewN ?_ _ | refine blk_drew ?_ | refine blk_alloc ?_ _ | refine blk_far7 ?_ NB1409_1410.out | refine blk_far7 ?_ NB1409_1411.out | refine blk_far7 ?_ NB1409_1414.out | refine blk_far7 ?_ NB1409_1417.out | refine blk_far7 ?_ NB1409_1420.out | refine blk_far7 ?_ NB1409_1422.out | refine blk_far7 ?_ NB1409_1424.out | refine blk_far7 ?_ NB1409_1448.out | refine blk_far7 ?_ NB1409_1450.out)); exact BK1409.out) Try.underlying70 rfl (by kernel_rfl) ?_) | ((with_reducible refine gate_dst (N := 24) rfl ?_); refine wpList_load_row rfl 70 (.tmp 4) rfl gb1410 rfl 70 (rv a1_0) (0, 0) _ (by (with_reducible repeat (first | refine blk_drewN ?_ _ | refine blk_drew ?_ | refine blk_alloc ?_ _ | refine blk_far7 ?_ NB1410_1409.out | refine blk_far7 ?_ NB1410_1411.out | refine blk_far7 ?_ NB1410_1414.out | refine blk_far7 ?_ NB1410_1417.out | refine blk_far7 ?_ NB1410_1420.out | refine blk_far7 ?_ NB1410_1422.out | refine blk_far7 ?_ NB1410_1424.out | refine blk_far7 ?_ NB1410_1448.out | refine blk_far7 ?_ NB1410_1450.out)); exact BK1410.out) Try.underlying70 rfl (by kernel_rfl) ?_) | ((with_reducible refine gate_dst (N := 29) rfl ?_); refine wpList_load_row rfl 70 (.tmp 5) rfl gb1411 rfl 70 (rv a2_0) (0, 0) _ (by (with_reducible repeat (first | refine blk_drewN ?_ _ | refine blk_drew ?_ | refine blk_alloc ?_ _ | refine blk_far7 ?_ NB1411_1409.out | refine blk_far7 ?_ NB1411_1410.out | refine blk_far7 ?_ NB1411_1414.out | refine blk_far7 ?_ NB1411_1417.out | refine blk_far7 ?_ NB1411_1420.out | refine blk_far7 ?_ NB1411_1422.out | refine blk_far7 ?_ NB1411_1424.out | refine blk_far7 ?_ NB1411_1448.out | refine blk_far7 ?_ NB1411_1450.out)); exact BK1411.out) Try.underlying70 rfl (by kernel_rfl) ?_) | ((with_reducible refine gate_dst (N := 3) rfl ?_); refine box_event ?hg (N := 3) ?hd (cs := (rv a0_0)) (t := 70) ?hr ?_; (case hd => rfl); (case hg => rfl); (case hr => first | (go_simp; done) | (go_simp; rfl)); intro gb1409 hg w8 hbox hb; have n0_ := bel HB hb; have n1_ := Aside0.mk (hbox); have n2_ := Aside0.mk ((by rw [hg]; exact (below_size HB.out) : w.heap.size ≤ gb1409)); have n3_ := Aside0.mk ((by rw [hg]; exact (below_size HB.out) : w.heap.size ≤ gb1409)); clear HB; have HB := n0_; have BK1409 := n1_; have GW1409 := n2_; have GE1409 := n3_; clear n0_ n1_ n2_ n3_; clear hb hbox hg) | ((with_reducible refine gate_dst (N := 4) rfl ?_); refine box_event ?hg (N := 4) ?hd (cs := (rv a1_0)) (t := 70) ?hr ?_; (case hd => rfl); (case hg => rfl); (case hr => first | (go_simp; done) | (go_simp; rfl)); intro gb1410 hg w9 hbox hb; have n0_ := bkb BK1409 hb; have n1_ := bel HB hb; have n2_ := Aside0.mk (hbox); have n3_ := Aside0.mk ((by rw [hg]; exact (below_size HB.out) : w.heap.size ≤ gb1410)); have n4_ := Aside0.mk ((by rw [hg]; exact (below_size HB.out) : w.heap.size ≤ gb1410)); have n5_ := Aside0.mk ((by rw [hg]; exact Nat.ne_of_lt (blk_lt (g := gb1409) (o := .cells (rv a0_0) 70 (0, 0)) (by (with_reducible repeat (first | refine blk_drewN ?_ _ | refine blk_drew ?_ | refine blk_alloc ?_ _)); exact BK1409.out)) : gb1409 ≠ gb1410)); have n6_ := Aside0.mk ((by rw [hg]; exact Nat.ne_of_gt (blk_lt (g := gb1409) (o := .cells (rv a0_0) 70 (0, 0)) (by (with_reducible repeat (first | refine blk_drewN ?_ _ | refine blk_drew ?_ | refine blk_alloc ?_ _)); exact BK1409.out)) : gb1410 ≠ gb1409)); clear BK1409; clear HB; have BK1409 := n0_; have HB := n1_; have BK1410 := n2_; have GW1410 := n3_; have GE1410 := n4_; have NB1409_1410 := n5_; have NB1410_1409 := n6_; clear n0_ n1_ n2_ n3_ n4_ n5_ n6_; clear hb hbox hg) | ((with_reducible refine gate_dst (N := 5) rfl ?_); refine box_event ?hg (N := 5) ?hd (cs := (rv a2_0)) (t := 70) ?hr ?_; (case hd => rfl); (case hg => rfl); (case hr => first | (go_simp; done) | (go_simp; rfl)); intro gb1411 hg w10 hbox hb; have n0_ := bkb BK1409 hb; have n1_ := bkb BK1410 hb; have n2_ := bel HB hb; have n3_ := Aside0.mk (hbox); have n4_ := Aside0.mk ((by rw [hg]; exact (below_size HB.out) : w.heap.size ≤ gb1411)); have n5_ := Aside0.mk ((by rw [hg]; exact (below_size HB.out) : w.heap.size ≤ gb1411)); have n6_ := Aside0.mk ((by rw [hg]; exact Nat.ne_of_lt (blk_lt (g := gb1409) (o := .cells (rv a0_0) 70 (0, 0)) (by (with_reducible repeat (first | refine blk_drewN ?_ _ | refine blk_drew ?_ | refine blk_alloc ?_ _)); exact BK1409.out)) : gb1409 ≠ gb1411)); have n7_ := Aside0.mk ((by rw [hg]; exact Nat.ne_of_gt (blk_lt (g := gb1409) (o := .cells (rv a0_0) 70 (0, 0)) (by (with_reducible repeat (first | refine blk_drewN ?_ _ | refine blk_drew ?_ | refine blk_alloc ?_ _)); exact BK1409.out)) : gb1411 ≠ gb1409)); have n8_ := Aside0.mk ((by rw [hg]; exact Nat.ne_of_lt (blk_lt (g := gb1410) (o := .cells (rv a1_0) 70 (0, 0)) (by (with_reducible repeat (first | refine blk_drewN ?_ _ | refine blk_drew ?_ | refine blk_alloc ?_ _)); exact BK1410.out)) : gb1410 ≠ gb1411)); have n9_ := Aside0.mk ((by rw [hg]; exact Nat.ne_of_gt (blk_lt (g := gb1410) (o := .cells (rv a1_0) 70 (0, 0)) (by (with_reducible repeat (first | refine blk_drewN ?_ _ | refine blk_drew ?_ | refine blk_alloc ?_ _)); exact BK1410.out)) : gb1411 ≠ gb1410)); clear BK1409; clear BK1410; clear HB; have BK1409 := n0_; have BK1410 := n1_; have HB := n2_; have BK1411 := n3_; have GW1411 := n4_; have GE1411 := n5_; have NB1409_1411 := n6_; have NB1411_1409 := n7_; have NB1410_1411 := n8_; have NB1411_1410 := n9_; clear n0_ n1_ n2_ n3_ n4_ n5_ n6_ n7_ n8_ n9_; clear hb hbox hg; have hnb11 := NB1409_1410.out; have hnc11 := NB1410_1409.out; have hnb12 := NB1409_1411.out; have hnc12 := NB1411_1409.out) | ((with_reducible refine gate_callee (f := 61) rfl ?_); refine goesL_ (some 20) rfl rfl Try.func61 (by kernel_rfl) rfl #[.agg (rv a0_0)] rfl (by (try simp only [List.map_toArray, List.map_cons, List.map_nil]); first | done | rfl | (simp only [List.length_drop, List.length_take]; rfl)) ?_; (with_reducible refine (chicorylaw06_Made.calls k a0_0 t1412 t1413 _ A4.out).mono ?_); rintro e w14 ⟨rfl, hb⟩; refine ⟨_, rfl, ?_⟩; have n0_ := bkb BK1409 hb; have n1_ := bkb BK1410 hb; have n2_ := bkb BK1411 hb; have n3_ := bel HB hb; clear BK1409; clear BK1410; clear BK1411; clear HB; have BK1409 := n0_; have BK1410 := n1_; have BK1411 := n2_; have HB := n3_; clear n0_ n1_ n2_ n3_; (try clear hb); (try clear hb2); (try clear hk); (try clear hi)) | ((with_reducible refine gate_dst (N := 7) rfl ?_); refine box_event ?hg (N := 7) ?hd (cs := zv) (t := 73) ?hr ?_; (case hd => rfl); (case hg => rfl); (case hr => first | (go_simp; done) | (go_simp; rfl)); intro gb1414 hg w15 hbox hb; have n0_ := bkb BK1409 hb; have n1_ := bkb BK1410 hb; have n2_ := bkb BK1411 hb; have n3_ := bel HB hb; have n4_ := Aside0.mk (hbox); have n5_ := Aside0.mk ((by rw [hg]; exact (below_size HB.out) : w.heap.size ≤ gb1414)); have n6_ := Aside0.mk ((by rw [hg]; exact (below_size HB.out) : w.heap.size ≤ gb1414)); have n7_ := Aside0.mk ((by rw [hg]; exact Nat.ne_of_lt (blk_lt (g := gb1409) (o := .cells (rv a0_0) 70 (0, 0)) (by (with_reducible repeat (first | refine blk_drewN ?_ _ | refine blk_drew ?_ | refine blk_alloc ?_ _)); exact BK1409.out)) : gb1409 ≠ gb1414)); have n8_ := Aside0.mk ((by rw [hg]; exact Nat.ne_of_gt (blk_lt (g := gb1409) (o := .cells (rv a0_0) 70 (0, 0)) (by (with_reducible repeat (first | refine blk_drewN ?_ _ | refine blk_drew ?_ | refine blk_alloc ?_ _)); exact BK1409.out)) : gb1414 ≠ gb1409)); have n9_ := Aside0.mk ((by rw [hg]; exact Nat.ne_of_lt (blk_lt (g := gb1410) (o := .cells (rv a1_0) 70 (0, 0)) (by (with_reducible repeat (first | refine blk_drewN ?_ _ | refine blk_drew ?_ | refine blk_alloc ?_ _)); exact BK1410.out)) : gb1410 ≠ gb1414)); have n10_ := Aside0.mk ((by rw [hg]; exact Nat.ne_of_gt (blk_lt (g := gb1410) (o := .cells (rv a1_0) 70 (0, 0)) (by (with_reducible repeat (first | refine blk_drewN ?_ _ | refine blk_drew ?_ | refine blk_alloc ?_ _)); exact BK1410.out)) : gb1414 ≠ gb1410)); have n11_ := Aside0.mk ((by rw [hg]; exact Nat.ne_of_lt (blk_lt (g := gb1411) (o := .cells (rv a2_0) 70 (0, 0)) (by (with_reducible repeat (first | refine blk_drewN ?_ _ | refine blk_drew ?_ | refine blk_alloc ?_ _)); exact BK1411.out)) : gb1411 ≠ gb1414)); have n12_ := Aside0.mk ((by rw [hg]; exact Nat.ne_of_gt (blk_lt (g := gb1411) (o := .cells (rv a2_0) 70 (0, 0)) (by (with_reducible repeat (first | refine blk_drewN ?_ _ | refine blk_drew ?_ | refine blk_alloc ?_ _)); exact BK1411.out)) : gb1414 ≠ gb1411)); clear BK1409; clear BK1410; clear BK1411; clear HB; have BK1409 := n0_; have BK1410 := n1_; have BK1411 := n2_; have HB := n3_; have BK1414 := n4_; have GW1414 := n5_; have GE1414 := n6_; have NB1409_1414 := n7_; have NB1414_1409 := n8_; have NB1410_1414 := n9_; have NB1414_1410 := n10_; have NB1411_1414 := n11_; have NB1414_1411 := n12_; clear n0_ n1_ n2_ n3_ n4_ n5_ n6_ n7_ n8_ n9_ n10_ n11_ n12_; clear hb hbox hg; have hnb16 := NB1414_1409.out; have hnc16 := NB1409_1414.out; have hnb17 := NB1414_1410.out; have hnc17 := NB1410_1414.out; have hnb18 := NB1414_1411.out; have hnc18 := NB1411_1414.out; obtain ⟨hcz19_0, hcz19_0_c1, hcz19_0_c2, hcz19_0_c3, hcz19_0_c4, hcz19_0_c5, hcz19_0_c6⟩ := c7_of (a := z7) BK1414.out rfl; obtain ⟨hfz19_0, hfz19_0_c1, hfz19_0_c2, hfz19_0_c3, hfz19_0_c4, hfz19_0_c5, hfz19_0_c6⟩ := fz7 BK1414.out; have hnb20 := NB1410_1411.out; have hnc20 := NB1411_1410.out) | ((with_reducible refine gate_callee (f := 61) rfl ?_); refine goesL_ (some 25) rfl rfl Try.func61 (by kernel_rfl) rfl #[.agg (rv a1_0)] rfl (by (try simp only [List.map_toArray, List.map_cons, List.map_nil]); first | done | rfl | (simp only [List.length_drop, List.length_take]; rfl)) ?_; (with_reducible refine (chicorylaw06_Made.calls k a1_0 t1415 t1416 _ A5.out).mono ?_); rintro e w22 ⟨rfl, hb⟩; refine ⟨_, rfl, ?_⟩; have n0_ := Aside0.mk (blk_below (g := gb1409) (o := .cells (rv a0_0) 70 (0, 0)) (by (with_reducible repeat (first | refine blk_drewN ?_ _ | refine blk_drew ?_ | refine blk_alloc ?_ _)); refine blk_far7 ?_ NB1409_1414.out; (with_reducible repeat (first | refine blk_drewN ?_ _ | refine blk_drew ?_ | refine blk_alloc ?_ _)); exact BK1409.out) hb); have n1_ := Aside0.mk (blk_below (g := gb1410) (o := .cells (rv a1_0) 70 (0, 0)) (by (with_reducible repeat (first | refine blk_drewN ?_ _ | refine blk_drew ?_ | refine blk_alloc ?_ _)); refine blk_far7 ?_ NB1410_1414.out; (with_reducible repeat (first | refine blk_drewN ?_ _ | refine blk_drew ?_ | refine blk_alloc ?_ _)); exact BK1410.out) hb); have n2_ := Aside0.mk (blk_below (g := gb1411) (o := .cells (rv a2_0) 70 (0, 0)) (by (with_reducible repeat (first | refine blk_drewN ?_ _ | refine blk_drew ?_ | refine blk_alloc ?_ _)); refine blk_far7 ?_ NB1411_1414.out; (with_reducible repeat (first | refine blk_drewN ?_ _ | refine blk_drew ?_ | refine blk_alloc ?_ _)); exact BK1411.out) hb); have n3_ := Aside0.mk (blk_below (g := gb1414) (o := .cells (sv t1412) 73 (0, 0)) (by (with_reducible repeat (first | refine blk_drewN ?_ _ | refine blk_drew ?_ | refine blk_alloc ?_ _)); refine blk_put7z ?_; (with_reducible repeat (first | refine blk_drewN ?_ _ | refine blk_drew ?_ | refine blk_alloc ?_ _)); exact BK1414.out) hb); have n4_ := Aside0.mk (below_step (by repeat (first | (with_reducible first | exact HB.out | apply below_alloc | apply pw_below_drewN | apply below_drew1 | refine below_set ?_ GE1409.out | refine below_set ?_ GE1410.out | refine below_set ?_ GE1411.out | refine below_set ?_ GE1414.out) | exact HB.out)) hb); clear BK1409; clear BK1410; clear BK1411; clear BK1414; clear HB; have BK1409 := n0_; have BK1410 := n1_; have BK1411 := n2_; have BK1414 := n3_; have HB := n4_; clear n0_ n1_ n2_ n3_ n4_; (try clear hb); (try clear hb2); (try clear hk); (try clear hi)) | ((with_reducible refine gate_dst (N := 9) rfl ?_); refine box_event ?hg (N := 9) ?hd (cs := zv) (t := 73) ?hr ?_; (case hd => rfl); (case hg => rfl); (case hr => first | (go_simp; done) | (go_simp; rfl)); intro gb1417 hg w23 hbox hb; have n0_ := bkb BK1409 hb; have n1_ := bkb BK1410 hb; have n2_ := bkb BK1411 hb; have n3_ := bkb BK1414 hb; have n4_ := bel HB hb; have n5_ := Aside0.mk (hbox); have n6_ := Aside0.mk ((by rw [hg]; exact (below_size HB.out) : w.heap.size ≤ gb1417)); have n7_ := Aside0.mk ((by rw [hg]; exact (below_size HB.out) : w.heap.size ≤ gb1417)); have n8_ := Aside0.mk ((by rw [hg]; exact Nat.ne_of_lt (blk_lt (g := gb1409) (o := .cells (rv a0_0) 70 (0, 0)) (by (with_reducible repeat (first | refine blk_drewN ?_ _ | refine blk_drew ?_ | refine blk_alloc ?_ _)); exact BK1409.out)) : gb1409 ≠ gb1417)); have n9_ := Aside0.mk ((by rw [hg]; exact Nat.ne_of_gt (blk_lt (g := gb1409) (o := .cells (rv a0_0) 70 (0, 0)) (by (with_reducible repeat (first | refine blk_drewN ?_ _ | refine blk_drew ?_ | refine blk_alloc ?_ _)); exact BK1409.out)) : gb1417 ≠ gb1409)); have n10_ := Aside0.mk ((by rw [hg]; exact Nat.ne_of_lt (blk_lt (g := gb1410) (o := .cells (rv a1_0) 70 (0, 0)) (by (with_reducible repeat (first | refine blk_drewN ?_ _ | refine blk_drew ?_ | refine blk_alloc ?_ _)); exact BK1410.out)) : gb1410 ≠ gb1417)); have n11_ := Aside0.mk ((by rw [hg]; exact Nat.ne_of_gt (blk_lt (g := gb1410) (o := .cells (rv a1_0) 70 (0, 0)) (by (with_reducible repeat (first | refine blk_drewN ?_ _ | refine blk_drew ?_ | refine blk_alloc ?_ _)); exact BK1410.out)) : gb1417 ≠ gb1410)); have n12_ := Aside0.mk ((by rw [hg]; exact Nat.ne_of_lt (blk_lt (g := gb1411) (o := .cells (rv a2_0) 70 (0, 0)) (by (with_reducible repeat (first | refine blk_drewN ?_ _ | refine blk_drew ?_ | refine blk_alloc ?_ _)); exact BK1411.out)) : gb1411 ≠ gb1417)); have n13_ := Aside0.mk ((by rw [hg]; exact Nat.ne_of_gt (blk_lt (g := gb1411) (o := .cells (rv a2_0) 70 (0, 0)) (by (with_reducible repeat (first | refine blk_drewN ?_ _ | refine blk_drew ?_ | refine blk_alloc ?_ _)); exact BK1411.out)) : gb1417 ≠ gb1411)); have n14_ := Aside0.mk ((by rw [hg]; exact Nat.ne_of_lt (blk_lt (g := gb1414) (o := .cells (sv t1412) 73 (0, 0)) (by (with_reducible repeat (first | refine blk_drewN ?_ _ | refine blk_drew ?_ | refine blk_alloc ?_ _)); exact BK1414.out)) : gb1414 ≠ gb1417)); have n15_ := Aside0.mk ((by rw [hg]; exact Nat.ne_of_gt (blk_lt (g := gb1414) (o := .cells (sv t1412) 73 (0, 0)) (by (with_reducible repeat (first | refine blk_drewN ?_ _ | refine blk_drew ?_ | refine blk_alloc ?_ _)); exact BK1414.out)) : gb1417 ≠ gb1414)); clear BK1409; clear BK1410; clear BK1411; clear BK1414; clear HB; have BK1409 := n0_; have BK1410 := n1_; have BK1411 := n2_; have BK1414 := n3_; have HB := n4_; have BK1417 := n5_; have GW1417 := n6_; have GE1417 := n7_; have NB1409_1417 := n8_; have NB1417_1409 := n9_; have NB1410_1417 := n10_; have NB1417_1410 := n11_; have NB1411_1417 := n12_; have NB1417_1411 := n13_; have NB1414_1417 := n14_; have NB1417_1414 := n15_; clear n0_ n1_ n2_ n3_ n4_ n5_ n6_ n7_ n8_ n9_ n10_ n11_ n12_ n13_ n14_ n15_; clear hb hbox hg; have hnb24 := NB1417_1409.out; have hnc24 := NB1409_1417.out; have hnb25 := NB1417_1410.out; have hnc25 := NB1410_1417.out; have hnb26 := NB1417_1411.out; have hnc26 := NB1411_1417.out; have hnb27 := NB1417_1414.out; have hnc27 := NB1414_1417.out; obtain ⟨hcz28_0, hcz28_0_c1, hcz28_0_c2, hcz28_0_c3, hcz28_0_c4, hcz28_0_c5, hcz28_0_c6⟩ := c7_of (a := z7) BK1417.out rfl; obtain ⟨hfz28_0, hfz28_0_c1, hfz28_0_c2, hfz28_0_c3, hfz28_0_c4, hfz28_0_c5, hfz28_0_c6⟩ := fz7 BK1417.out) | ((with_reducible refine gate_callee (f := 61) rfl ?_); refine goesL_ (some 30) rfl rfl Try.func61 (by kernel_rfl) rfl #[.agg (rv a2_0)] rfl (by (try simp only [List.map_toArray, List.map_cons, List.map_nil]); first | done | rfl | (simp only [List.length_drop, List.length_take]; rfl)) ?_; (with_reducible refine (chicorylaw06_Made.calls k a2_0 t1418 t1419 _ A6.out).mono ?_); rintro e w30 ⟨rfl, hb⟩; refine ⟨_, rfl, ?_⟩; have n0_ := Aside0.mk (blk_below (g := gb1409) (o := .cells (rv a0_0) 70 (0, 0)) (by (with_reducible repeat (first | refine blk_drewN ?_ _ | refine blk_drew ?_ | refine blk_alloc ?_ _)); refine blk_far7 ?_ NB1409_1417.out; (with_reducible repeat (first | refine blk_drewN ?_ _ | refine blk_drew ?_ | refine blk_alloc ?_ _)); exact BK1409.out) hb); have n1_ := Aside0.mk (blk_below (g := gb1410) (o := .cells (rv a1_0) 70 (0, 0)) (by (with_reducible repeat (first | refine blk_drewN ?_ _ | refine blk_drew ?_ | refine blk_alloc ?_ _)); refine blk_far7 ?_ NB1410_1417.out; (with_reducible repeat (first | refine blk_drewN ?_ _ | refine blk_drew ?_ | refine blk_alloc ?_ _)); exact BK1410.out) hb); have n2_ := Aside0.mk (blk_below (g := gb1411) (o := .cells (rv a2_0) 70 (0, 0)) (by (with_reducible repeat (first | refine blk_drewN ?_ _ | refine blk_drew ?_ | refine blk_alloc ?_ _)); refine blk_far7 ?_ NB1411_1417.out; (with_reducible repeat (first | refine blk_drewN ?_ _ | refine blk_drew ?_ | refine blk_alloc ?_ _)); exact BK1411.out) hb); have n3_ := Aside0.mk (blk_below (g := gb1414) (o := .cells (sv t1412) 73 (0, 0)) (by (with_reducible repeat (first | refine blk_drewN ?_ _ | refine blk_drew ?_ | refine blk_alloc ?_ _)); refine blk_far7 ?_ NB1414_1417.out; (with_reducible repeat (first | refine blk_drewN ?_ _ | refine blk_drew ?_ | refine blk_alloc ?_ _)); exact BK1414.out) hb); have n4_ := Aside0.mk (blk_below (g := gb1417) (o := .cells (sv t1415) 73 (0, 0)) (by (with_reducible repeat (first | refine blk_drewN ?_ _ | refine blk_drew ?_ | refine blk_alloc ?_ _)); refine blk_put7z ?_; (with_reducible repeat (first | refine blk_drewN ?_ _ | refine blk_drew ?_ | refine blk_alloc ?_ _)); exact BK1417.out) hb); have n5_ := Aside0.mk (below_step (by repeat (first | (with_reducible first | exact HB.out | apply below_alloc | apply pw_below_drewN | apply below_drew1 | refine below_set ?_ GE1409.out | refine below_set ?_ GE1410.out | refine below_set ?_ GE1411.out | refine below_set ?_ GE1414.out | refine below_set ?_ GE1417.out) | exact HB.out)) hb); clear BK1409; clear BK1410; clear BK1411; clear BK1414; clear BK1417; clear HB; have BK1409 := n0_; have BK1410 := n1_; have BK1411 := n2_; have BK1414 := n3_; have BK1417 := n4_; have HB := n5_; clear n0_ n1_ n2_ n3_ n4_ n5_; (try clear hb); (try clear hb2); (try clear hk); (try clear hi)) | ((with_reducible refine gate_dst (N := 11) rfl ?_); refine box_event ?hg (N := 11) ?hd (cs := zv) (t := 73) ?hr ?_; (case hd => rfl); (case hg => rfl); (case hr => first | (go_simp; done) | (go_simp; rfl)); intro gb1420 hg w31 hbox hb; have n0_ := bkb BK1409 hb; have n1_ := bkb BK1410 hb; have n2_ := bkb BK1411 hb; have n3_ := bkb BK1414 hb; have n4_ := bkb BK1417 hb; have n5_ := bel HB hb; have n6_ := Aside0.mk (hbox); have n7_ := Aside0.mk ((by rw [hg]; exact (below_size HB.out) : w.heap.size ≤ gb1420)); have n8_ := Aside0.mk ((by rw [hg]; exact (below_size HB.out) : w.heap.size ≤ gb1420)); have n9_ := Aside0.mk ((by rw [hg]; exact Nat.ne_of_lt (blk_lt (g := gb1409) (o := .cells (rv a0_0) 70 (0, 0)) (by (with_reducible repeat (first | refine blk_drewN ?_ _ | refine blk_drew ?_ | refine blk_alloc ?_ _)); exact BK1409.out)) : gb1409 ≠ gb1420)); have n10_ := Aside0.mk ((by rw [hg]; exact Nat.ne_of_gt (blk_lt (g := gb1409) (o := .cells (rv a0_0) 70 (0, 0)) (by (with_reducible repeat (first | refine blk_drewN ?_ _ | refine blk_drew ?_ | refine blk_alloc ?_ _)); exact BK1409.out)) : gb1420 ≠ gb1409)); have n11_ := Aside0.mk ((by rw [hg]; exact Nat.ne_of_lt (blk_lt (g := gb1410) (o := .cells (rv a1_0) 70 (0, 0)) (by (with_reducible repeat (first | refine blk_drewN ?_ _ | refine blk_drew ?_ | refine blk_alloc ?_ _)); exact BK1410.out)) : gb1410 ≠ gb1420)); have n12_ := Aside0.mk ((by rw [hg]; exact Nat.ne_of_gt (blk_lt (g := gb1410) (o := .cells (rv a1_0) 70 (0, 0)) (by (with_reducible repeat (first | refine blk_drewN ?_ _ | refine blk_drew ?_ | refine blk_alloc ?_ _)); exact BK1410.out)) : gb1420 ≠ gb1410)); have n13_ := Aside0.mk ((by rw [hg]; exact Nat.ne_of_lt (blk_lt (g := gb1411) (o := .cells (rv a2_0) 70 (0, 0)) (by (with_reducible repeat (first | refine blk_drewN ?_ _ | refine blk_drew ?_ | refine blk_alloc ?_ _)); exact BK1411.out)) : gb1411 ≠ gb1420)); have n14_ := Aside0.mk ((by rw [hg]; exact Nat.ne_of_gt (blk_lt (g := gb1411) (o := .cells (rv a2_0) 70 (0, 0)) (by (with_reducible repeat (first | refine blk_drewN ?_ _ | refine blk_drew ?_ | refine blk_alloc ?_ _)); exact BK1411.out)) : gb1420 ≠ gb1411)); have n15_ := Aside0.mk ((by rw [hg]; exact Nat.ne_of_lt (blk_lt (g := gb1414) (o := .cells (sv t1412) 73 (0, 0)) (by (with_reducible repeat (first | refine blk_drewN ?_ _ | refine blk_drew ?_ | refine blk_alloc ?_ _)); exact BK1414.out)) : gb1414 ≠ gb1420)); have n16_ := Aside0.mk ((by rw [hg]; exact Nat.ne_of_gt (blk_lt (g := gb1414) (o := .cells (sv t1412) 73 (0, 0)) (by (with_reducible repeat (first | refine blk_drewN ?_ _ | refine blk_drew ?_ | refine blk_alloc ?_ _)); exact BK1414.out)) : gb1420 ≠ gb1414)); have n17_ := Aside0.mk ((by rw [hg]; exact Nat.ne_of_lt (blk_lt (g := gb1417) (o := .cells (sv t1415) 73 (0, 0)) (by (with_reducible repeat (first | refine blk_drewN ?_ _ | refine blk_drew ?_ | refine blk_alloc ?_ _)); exact BK1417.out)) : gb1417 ≠ gb1420)); have n18_ := Aside0.mk ((by rw [hg]; exact Nat.ne_of_gt (blk_lt (g := gb1417) (o := .cells (sv t1415) 73 (0, 0)) (by (with_reducible repeat (first | refine blk_drewN ?_ _ | refine blk_drew ?_ | refine blk_alloc ?_ _)); exact BK1417.out)) : gb1420 ≠ gb1417)); clear BK1409; clear BK1410; clear BK1411; clear BK1414; clear BK1417; clear HB; have BK1409 := n0_; have BK1410 := n1_; have BK1411 := n2_; have BK1414 := n3_; have BK1417 := n4_; have HB := n5_; have BK1420 := n6_; have GW1420 := n7_; have GE1420 := n8_; have NB1409_1420 := n9_; have NB1420_1409 := n10_; have NB1410_1420 := n11_; have NB1420_1410 := n12_; have NB1411_1420 := n13_; have NB1420_1411 := n14_; have NB1414_1420 := n15_; have NB1420_1414 := n16_; have NB1417_1420 := n17_; have NB1420_1417 := n18_; clear n0_ n1_ n2_ n3_ n4_ n5_ n6_ n7_ n8_ n9_ n10_ n11_ n12_ n13_ n14_ n15_ n16_ n17_ n18_; clear hb hbox hg; have hnb32 := NB1420_1409.out; have hnc32 := NB1409_1420.out; have hnb33 := NB1420_1410.out; have hnc33 := NB1410_1420.out; have hnb34 := NB1420_1411.out; have hnc34 := NB1411_1420.out; have hnb35 := NB1420_1414.out; have hnc35 := NB1414_1420.out; have hnb36 := NB1420_1417.out; have hnc36 := NB1417_1420.out; obtain ⟨hcz37_0, hcz37_0_c1, hcz37_0_c2, hcz37_0_c3, hcz37_0_c4, hcz37_0_c5, hcz37_0_c6⟩ := c7_of (a := z7) BK1420.out rfl; obtain ⟨hfz37_0, hfz37_0_c1, hfz37_0_c2, hfz37_0_c3, hfz37_0_c4, hfz37_0_c5, hfz37_0_c6⟩ := fz7 BK1420.out))
  (try simp only [Act.put, List.setIfInBounds_toArray, List.set_cons_zero, List.set_cons_succ])
  go_cut [42] (fun v42 wc => ∃ (kq : Nat) (x42_6 : Bool), v42 = .bool x42_6 ∧ Aside0 (chicorylaw06_ScalarRing.j0 kq x42_6 t1412 t1415 t1418 = some true) ∧ Aside0 (kq ≤ k) ∧ Aside0 (wc.heap[gb1409]? = some (.cells (rv a0_0) 70 (0, 0))) ∧ Aside0 (wc.heap[gb1410]? = some (.cells (rv a1_0) 70 (0, 0))) ∧ Aside0 (wc.heap[gb1411]? = some (.cells (rv a2_0) 70 (0, 0))) ∧ Aside0 (wc.heap[gb1414]? = some (.cells (sv t1412) 73 (0, 0))) ∧ Aside0 (wc.heap[gb1417]? = some (.cells (sv t1415) 73 (0, 0))) ∧ Aside0 (wc.heap[gb1420]? = some (.cells (sv t1418) 73 (0, 0))) ∧ Aside0 (Below w.heap.size w wc))
  case first =>
    have H := HC7.out
    clear HC7
    by_cases c38 : t1413 = true
    · subst c38
      have H1 : (if t1416 = true then (chicorylaw06_ScalarRing.j0 k (!t1419) t1412 t1415 t1418) else (chicorylaw06_ScalarRing.j0 k true t1412 t1415 t1418)) = some true := by rw [if_pos rfl] at H; exact H
      clear H; have H := H1; clear H1
      by_cases c39 : t1416 = true
      · subst c39
        have H1 : (chicorylaw06_ScalarRing.j0 k (!t1419) t1412 t1415 t1418) = some true := by rw [if_pos rfl] at H; exact H
        clear H; have H := H1; clear H1
        have H' := Aside0.mk H
        clear H
        go_wp2
        go_meet
        case rel => exact ⟨_, (!t1419), (by first | rfl | (simp; done) | (simp [*]; done)), H', ⟨by first | omega | exact Nat.le_refl _⟩, ⟨by (with_reducible repeat (first | refine blk_drewN ?_ _ | refine blk_drew ?_ | refine blk_alloc ?_ _)); refine blk_far7 ?_ NB1409_1420.out; (with_reducible repeat (first | refine blk_drewN ?_ _ | refine blk_drew ?_ | refine blk_alloc ?_ _)); exact BK1409.out⟩, ⟨by (with_reducible repeat (first | refine blk_drewN ?_ _ | refine blk_drew ?_ | refine blk_alloc ?_ _)); refine blk_far7 ?_ NB1410_1420.out; (with_reducible repeat (first | refine blk_drewN ?_ _ | refine blk_drew ?_ | refine blk_alloc ?_ _)); exact BK1410.out⟩, ⟨by (with_reducible repeat (first | refine blk_drewN ?_ _ | refine blk_drew ?_ | refine blk_alloc ?_ _)); refine blk_far7 ?_ NB1411_1420.out; (with_reducible repeat (first | refine blk_drewN ?_ _ | refine blk_drew ?_ | refine blk_alloc ?_ _)); exact BK1411.out⟩, ⟨by (with_reducible repeat (first | refine blk_drewN ?_ _ | refine blk_drew ?_ | refine blk_alloc ?_ _)); refine blk_far7 ?_ NB1414_1420.out; (with_reducible repeat (first | refine blk_drewN ?_ _ | refine blk_drew ?_ | refine blk_alloc ?_ _)); exact BK1414.out⟩, ⟨by (with_reducible repeat (first | refine blk_drewN ?_ _ | refine blk_drew ?_ | refine blk_alloc ?_ _)); refine blk_far7 ?_ NB1417_1420.out; (with_reducible repeat (first | refine blk_drewN ?_ _ | refine blk_drew ?_ | refine blk_alloc ?_ _)); exact BK1417.out⟩, ⟨by (with_reducible repeat (first | refine blk_drewN ?_ _ | refine blk_drew ?_ | refine blk_alloc ?_ _)); refine blk_put7z ?_; (with_reducible repeat (first | refine blk_drewN ?_ _ | refine blk_drew ?_ | refine blk_alloc ?_ _)); exact BK1420.out⟩, ⟨by repeat (first | (with_reducible first | exact HB.out | apply below_alloc | apply pw_below_drewN | apply below_drew1 | refine below_set ?_ GE1409.out | refine below_set ?_ GE1410.out | refine below_set ?_ GE1411.out | refine below_set ?_ GE1414.out | refine below_set ?_ GE1417.out | refine below_set ?_ GE1420.out) | exact HB.out)⟩⟩
      · replace c39 := Bool.eq_false_iff.mpr c39
        subst c39
        have H1 : (chicorylaw06_ScalarRing.j0 k true t1412 t1415 t1418) = some true := by rw [if_neg (show ¬ (false = true) by decide)] at H; exact H
        exact absurd H1 (by intro h_; revert h_; cases k <;> simp [chicorylaw06_ScalarRing.j0])
    · replace c38 := Bool.eq_false_iff.mpr c38
      subst c38
      have H1 : (chicorylaw06_ScalarRing.j0 k true t1412 t1415 t1418) = some true := by rw [if_neg (show ¬ (false = true) by decide)] at H; exact H
      exact absurd H1 (by intro h_; revert h_; cases k <;> simp [chicorylaw06_ScalarRing.j0])
  case rest =>
    clear HC7
    try clear c1
    try clear c2
    try clear p2
    try clear c3
    try clear c6
    try clear c11
    try clear c12
    try clear c16
    try clear c17
    try clear c18
    try clear c20
    try clear c21
    try clear c24
    try clear c25
    try clear c26
    try clear c27
    try clear c32
    try clear c33
    try clear c34
    try clear c35
    try clear c36
    try clear c38
    try clear c39
    try clear hcz13_0
    try clear hcz19_0
    try clear hcz21_0
    try clear hcz28_0
    try clear hcz29_0
    try clear hcz37_0
    try clear hfz13_0
    try clear hfz19_0
    try clear hfz21_0
    try clear hfz28_0
    try clear hfz29_0
    try clear hfz37_0
    obtain ⟨kq, x42_6, rfl, HA, HJ6, BK1409, BK1410, BK1411, BK1414, BK1417, BK1420, HB⟩ := hcut
    cases kq with
    | zero => exact absurd HA.out (by simp [chicorylaw06_ScalarRing.j0])
    | succ kj6 =>
      have H := HA.out
      clear HA
      simp only [chicorylaw06_ScalarRing.j0] at H
      by_cases c40 : x42_6 = true
      · subst c40
        have H1 : (some false) = some true := by rw [if_pos rfl] at H; exact H
        clear H; have H := H1; clear H1
        exact absurd H (by simp)
      · replace c40 := Bool.eq_false_iff.mpr c40
        subst c40
        have H1 : ((scalar_Add.f kj6 t1412 t1415).bind fun t1421 => ((scalar_Mul.f kj6 t1412 t1415).bind fun t1423 => ((scalar_Add.f kj6 t1415 t1412).bind fun t1425 => ((scalar_Equal.f kj6 t1421 t1425).bind fun t1426 => (if t1426 = true then ((scalar_Mul.f kj6 t1415 t1412).bind fun t1427 => ((scalar_Equal.f kj6 t1423 t1427).bind fun t1428 => (if t1428 = true then ((scalar_Add.f kj6 t1421 t1418).bind fun t1429 => ((scalar_Add.f kj6 t1415 t1418).bind fun t1430 => ((scalar_Add.f kj6 t1412 t1430).bind fun t1431 => ((scalar_Equal.f kj6 t1429 t1431).bind fun t1432 => (if t1432 = true then ((scalar_Mul.f kj6 t1423 t1418).bind fun t1433 => ((scalar_Mul.f kj6 t1415 t1418).bind fun t1434 => ((scalar_Mul.f kj6 t1412 t1434).bind fun t1435 => ((scalar_Equal.f kj6 t1433 t1435).bind fun t1436 => (chicorylaw06_ScalarRing.j1 kj6 (!t1436) t1412 t1415 t1418 t1421))))) else (chicorylaw06_ScalarRing.j1 kj6 true t1412 t1415 t1418 t1421)))))) else (chicorylaw06_ScalarRing.j1 kj6 true t1412 t1415 t1418 t1421)))) else (chicorylaw06_ScalarRing.j1 kj6 true t1412 t1415 t1418 t1421)))))) = some true := by rw [if_neg (show ¬ (false = true) by decide)] at H; exact H
        clear H; have H := H1; clear H1
        replace H := Option.bind_eq_some_iff.mp H
        obtain ⟨t1421, A410, H⟩ := H
        replace H : ((scalar_Mul.f kj6 t1412 t1415).bind fun t1423 => ((scalar_Add.f kj6 t1415 t1412).bind fun t1425 => ((scalar_Equal.f kj6 t1421 t1425).bind fun t1426 => (if t1426 = true then ((scalar_Mul.f kj6 t1415 t1412).bind fun t1427 => ((scalar_Equal.f kj6 t1423 t1427).bind fun t1428 => (if t1428 = true then ((scalar_Add.f kj6 t1421 t1418).bind fun t1429 => ((scalar_Add.f kj6 t1415 t1418).bind fun t1430 => ((scalar_Add.f kj6 t1412 t1430).bind fun t1431 => ((scalar_Equal.f kj6 t1429 t1431).bind fun t1432 => (if t1432 = true then ((scalar_Mul.f kj6 t1423 t1418).bind fun t1433 => ((scalar_Mul.f kj6 t1415 t1418).bind fun t1434 => ((scalar_Mul.f kj6 t1412 t1434).bind fun t1435 => ((scalar_Equal.f kj6 t1433 t1435).bind fun t1436 => (chicorylaw06_ScalarRing.j1 kj6 (!t1436) t1412 t1415 t1418 t1421))))) else (chicorylaw06_ScalarRing.j1 kj6 true t1412 t1415 t1418 t1421)))))) else (chicorylaw06_ScalarRing.j1 kj6 true t1412 t1415 t1418 t1421)))) else (chicorylaw06_ScalarRing.j1 kj6 true t1412 t1415 t1418 t1421))))) = some true := H
        have A41 := Aside0.mk A410
        clear A410
        replace H := Option.bind_eq_some_iff.mp H
        obtain ⟨t1423, A420, H⟩ := H
        replace H : ((scalar_Add.f kj6 t1415 t1412).bind fun t1425 => ((scalar_Equal.f kj6 t1421 t1425).bind fun t1426 => (if t1426 = true then ((scalar_Mul.f kj6 t1415 t1412).bind fun t1427 => ((scalar_Equal.f kj6 t1423 t1427).bind fun t1428 => (if t1428 = true then ((scalar_Add.f kj6 t1421 t1418).bind fun t1429 => ((scalar_Add.f kj6 t1415 t1418).bind fun t1430 => ((scalar_Add.f kj6 t1412 t1430).bind fun t1431 => ((scalar_Equal.f kj6 t1429 t1431).bind fun t1432 => (if t1432 = true then ((scalar_Mul.f kj6 t1423 t1418).bind fun t1433 => ((scalar_Mul.f kj6 t1415 t1418).bind fun t1434 => ((scalar_Mul.f kj6 t1412 t1434).bind fun t1435 => ((scalar_Equal.f kj6 t1433 t1435).bind fun t1436 => (chicorylaw06_ScalarRing.j1 kj6 (!t1436) t1412 t1415 t1418 t1421))))) else (chicorylaw06_ScalarRing.j1 kj6 true t1412 t1415 t1418 t1421)))))) else (chicorylaw06_ScalarRing.j1 kj6 true t1412 t1415 t1418 t1421)))) else (chicorylaw06_ScalarRing.j1 kj6 true t1412 t1415 t1418 t1421)))) = some true := H
        have A42 := Aside0.mk A420
        clear A420
        have HC43 := Aside0.mk H
        clear H
        have hnb44 := NB1414_1409.out
        have hnc44 := NB1409_1414.out
        have hnb45 := NB1414_1410.out
        have hnc45 := NB1410_1414.out
        have hnb46 := NB1414_1411.out
        have hnc46 := NB1411_1414.out
        have hnb47 := NB1414_1417.out
        have hnc47 := NB1417_1414.out
        have hnb48 := NB1414_1420.out
        have hnc48 := NB1420_1414.out
        obtain ⟨hcz49_0, hcz49_0_c1, hcz49_0_c2, hcz49_0_c3, hcz49_0_c4, hcz49_0_c5, hcz49_0_c6⟩ := c7_of (a := t1412) BK1414.out rfl
        obtain ⟨hfz49_0, hfz49_0_c1, hfz49_0_c2, hfz49_0_c3, hfz49_0_c4, hfz49_0_c5, hfz49_0_c6⟩ := fz7 BK1414.out
        have hnb50 := NB1417_1409.out
        have hnc50 := NB1409_1417.out
        have hnb51 := NB1417_1410.out
        have hnc51 := NB1410_1417.out
        have hnb52 := NB1417_1411.out
        have hnc52 := NB1411_1417.out
        have hnb53 := NB1417_1420.out
        have hnc53 := NB1420_1417.out
        obtain ⟨hcz54_0, hcz54_0_c1, hcz54_0_c2, hcz54_0_c3, hcz54_0_c4, hcz54_0_c5, hcz54_0_c6⟩ := c7_of (a := t1415) BK1417.out rfl
        obtain ⟨hfz54_0, hfz54_0_c1, hfz54_0_c2, hfz54_0_c3, hfz54_0_c4, hfz54_0_c5, hfz54_0_c6⟩ := fz7 BK1417.out
        go_upto_region 8 with (first | ((with_reducible refine gate_callee (f := 64) rfl ?_); refine goesL_ (some 45) rfl rfl Try.func64 (by kernel_rfl) rfl #[.agg (sv t1412), .agg (sv t1415)] rfl (by (try simp only [List.map_toArray, List.map_cons, List.map_nil]); first | done | rfl | (simp only [List.length_drop, List.length_take]; rfl)) ?_; (with_reducible refine (scalar_Add.calls kj6 t1412 t1415 t1421 _ A41.out).mono ?_); rintro e w55 ⟨rfl, hb⟩; refine ⟨_, rfl, ?_⟩; have n0_ := bkb BK1409 hb; have n1_ := bkb BK1410 hb; have n2_ := bkb BK1411 hb; have n3_ := bkb BK1414 hb; have n4_ := bkb BK1417 hb; have n5_ := bkb BK1420 hb; have n6_ := bel HB hb; clear BK1409; clear BK1410; clear BK1411; clear BK1414; clear BK1417; clear BK1420; clear HB; have BK1409 := n0_; have BK1410 := n1_; have BK1411 := n2_; have BK1414 := n3_; have BK1417 := n4_; have BK1420 := n5_; have HB := n6_; clear n0_ n1_ n2_ n3_ n4_ n5_ n6_; (try clear hb); (try clear hb2); (try clear hk); (try clear hi)) | ((with_reducible refine gate_dst (N := 13) rfl ?_); refine box_event ?hg (N := 13) ?hd (cs := zv) (t := 73) ?hr ?_; (case hd => rfl); (case hg => rfl); (case hr => first | (go_simp; done) | (go_simp; rfl)); intro gb1422 hg w56 hbox hb; have n0_ := bkb BK1409 hb; have n1_ := bkb BK1410 hb; have n2_ := bkb BK1411 hb; have n3_ := bkb BK1414 hb; have n4_ := bkb BK1417 hb; have n5_ := bkb BK1420 hb; have n6_ := bel HB hb; have n7_ := Aside0.mk (hbox); have n8_ := Aside0.mk ((by rw [hg]; exact (below_size HB.out) : w.heap.size ≤ gb1422)); have n9_ := Aside0.mk ((by rw [hg]; exact (below_size HB.out) : w.heap.size ≤ gb1422)); have n10_ := Aside0.mk ((by rw [hg]; exact Nat.ne_of_lt (blk_lt (g := gb1409) (o := .cells (rv a0_0) 70 (0, 0)) (by (with_reducible repeat (first | refine blk_drewN ?_ _ | refine blk_drew ?_ | refine blk_alloc ?_ _)); exact BK1409.out)) : gb1409 ≠ gb1422)); have n11_ := Aside0.mk ((by rw [hg]; exact Nat.ne_of_gt (blk_lt (g := gb1409) (o := .cells (rv a0_0) 70 (0, 0)) (by (with_reducible repeat (first | refine blk_drewN ?_ _ | refine blk_drew ?_ | refine blk_alloc ?_ _)); exact BK1409.out)) : gb1422 ≠ gb1409)); have n12_ := Aside0.mk ((by rw [hg]; exact Nat.ne_of_lt (blk_lt (g := gb1410) (o := .cells (rv a1_0) 70 (0, 0)) (by (with_reducible repeat (first | refine blk_drewN ?_ _ | refine blk_drew ?_ | refine blk_alloc ?_ _)); exact BK1410.out)) : gb1410 ≠ gb1422)); have n13_ := Aside0.mk ((by rw [hg]; exact Nat.ne_of_gt (blk_lt (g := gb1410) (o := .cells (rv a1_0) 70 (0, 0)) (by (with_reducible repeat (first | refine blk_drewN ?_ _ | refine blk_drew ?_ | refine blk_alloc ?_ _)); exact BK1410.out)) : gb1422 ≠ gb1410)); have n14_ := Aside0.mk ((by rw [hg]; exact Nat.ne_of_lt (blk_lt (g := gb1411) (o := .cells (rv a2_0) 70 (0, 0)) (by (with_reducible repeat (first | refine blk_drewN ?_ _ | refine blk_drew ?_ | refine blk_alloc ?_ _)); exact BK1411.out)) : gb1411 ≠ gb1422)); have n15_ := Aside0.mk ((by rw [hg]; exact Nat.ne_of_gt (blk_lt (g := gb1411) (o := .cells (rv a2_0) 70 (0, 0)) (by (with_reducible repeat (first | refine blk_drewN ?_ _ | refine blk_drew ?_ | refine blk_alloc ?_ _)); exact BK1411.out)) : gb1422 ≠ gb1411)); have n16_ := Aside0.mk ((by rw [hg]; exact Nat.ne_of_lt (blk_lt (g := gb1414) (o := .cells (sv t1412) 73 (0, 0)) (by (with_reducible repeat (first | refine blk_drewN ?_ _ | refine blk_drew ?_ | refine blk_alloc ?_ _)); exact BK1414.out)) : gb1414 ≠ gb1422)); have n17_ := Aside0.mk ((by rw [hg]; exact Nat.ne_of_gt (blk_lt (g := gb1414) (o := .cells (sv t1412) 73 (0, 0)) (by (with_reducible repeat (first | refine blk_drewN ?_ _ | refine blk_drew ?_ | refine blk_alloc ?_ _)); exact BK1414.out)) : gb1422 ≠ gb1414)); have n18_ := Aside0.mk ((by rw [hg]; exact Nat.ne_of_lt (blk_lt (g := gb1417) (o := .cells (sv t1415) 73 (0, 0)) (by (with_reducible repeat (first | refine blk_drewN ?_ _ | refine blk_drew ?_ | refine blk_alloc ?_ _)); exact BK1417.out)) : gb1417 ≠ gb1422)); have n19_ := Aside0.mk ((by rw [hg]; exact Nat.ne_of_gt (blk_lt (g := gb1417) (o := .cells (sv t1415) 73 (0, 0)) (by (with_reducible repeat (first | refine blk_drewN ?_ _ | refine blk_drew ?_ | refine blk_alloc ?_ _)); exact BK1417.out)) : gb1422 ≠ gb1417)); have n20_ := Aside0.mk ((by rw [hg]; exact Nat.ne_of_lt (blk_lt (g := gb1420) (o := .cells (sv t1418) 73 (0, 0)) (by (with_reducible repeat (first | refine blk_drewN ?_ _ | refine blk_drew ?_ | refine blk_alloc ?_ _)); exact BK1420.out)) : gb1420 ≠ gb1422)); have n21_ := Aside0.mk ((by rw [hg]; exact Nat.ne_of_gt (blk_lt (g := gb1420) (o := .cells (sv t1418) 73 (0, 0)) (by (with_reducible repeat (first | refine blk_drewN ?_ _ | refine blk_drew ?_ | refine blk_alloc ?_ _)); exact BK1420.out)) : gb1422 ≠ gb1420)); clear BK1409; clear BK1410; clear BK1411; clear BK1414; clear BK1417; clear BK1420; clear HB; have BK1409 := n0_; have BK1410 := n1_; have BK1411 := n2_; have BK1414 := n3_; have BK1417 := n4_; have BK1420 := n5_; have HB := n6_; have BK1422 := n7_; have GW1422 := n8_; have GE1422 := n9_; have NB1409_1422 := n10_; have NB1422_1409 := n11_; have NB1410_1422 := n12_; have NB1422_1410 := n13_; have NB1411_1422 := n14_; have NB1422_1411 := n15_; have NB1414_1422 := n16_; have NB1422_1414 := n17_; have NB1417_1422 := n18_; have NB1422_1417 := n19_; have NB1420_1422 := n20_; have NB1422_1420 := n21_; clear n0_ n1_ n2_ n3_ n4_ n5_ n6_ n7_ n8_ n9_ n10_ n11_ n12_ n13_ n14_ n15_ n16_ n17_ n18_ n19_ n20_ n21_; clear hb hbox hg; have hnb57 := NB1422_1409.out; have hnc57 := NB1409_1422.out; have hnb58 := NB1422_1410.out; have hnc58 := NB1410_1422.out; have hnb59 := NB1422_1411.out; have hnc59 := NB1411_1422.out; have hnb60 := NB1422_1414.out; have hnc60 := NB1414_1422.out; have hnb61 := NB1422_1417.out; have hnc61 := NB1417_1422.out; have hnb62 := NB1422_1420.out; have hnc62 := NB1420_1422.out; obtain ⟨hcz63_0, hcz63_0_c1, hcz63_0_c2, hcz63_0_c3, hcz63_0_c4, hcz63_0_c5, hcz63_0_c6⟩ := c7_of (a := z7) BK1422.out rfl; obtain ⟨hfz63_0, hfz63_0_c1, hfz63_0_c2, hfz63_0_c3, hfz63_0_c4, hfz63_0_c5, hfz63_0_c6⟩ := fz7 BK1422.out; obtain ⟨hcz64_0, hcz64_0_c1, hcz64_0_c2, hcz64_0_c3, hcz64_0_c4, hcz64_0_c5, hcz64_0_c6⟩ := c7_of (a := t1412) BK1414.out rfl; obtain ⟨hfz64_0, hfz64_0_c1, hfz64_0_c2, hfz64_0_c3, hfz64_0_c4, hfz64_0_c5, hfz64_0_c6⟩ := fz7 BK1414.out; obtain ⟨hcz65_0, hcz65_0_c1, hcz65_0_c2, hcz65_0_c3, hcz65_0_c4, hcz65_0_c5, hcz65_0_c6⟩ := c7_of (a := t1415) BK1417.out rfl; obtain ⟨hfz65_0, hfz65_0_c1, hfz65_0_c2, hfz65_0_c3, hfz65_0_c4, hfz65_0_c5, hfz65_0_c6⟩ := fz7 BK1417.out) | ((with_reducible refine gate_callee (f := 72) rfl ?_); refine goesL_ (some 48) rfl rfl Try.func72 (by kernel_rfl) rfl #[.agg (sv t1412), .agg (sv t1415)] rfl (by (try simp only [List.map_toArray, List.map_cons, List.map_nil]); first | done | rfl | (simp only [List.length_drop, List.length_take]; rfl)) ?_; (with_reducible refine (scalar_Mul.calls kj6 t1412 t1415 t1423 _ A42.out).mono ?_); rintro e w66 ⟨rfl, hb⟩; refine ⟨_, rfl, ?_⟩; have n0_ := Aside0.mk (blk_below (g := gb1409) (o := .cells (rv a0_0) 70 (0, 0)) (by (with_reducible repeat (first | refine blk_drewN ?_ _ | refine blk_drew ?_ | refine blk_alloc ?_ _)); refine blk_far7 ?_ NB1409_1422.out; (with_reducible repeat (first | refine blk_drewN ?_ _ | refine blk_drew ?_ | refine blk_alloc ?_ _)); exact BK1409.out) hb); have n1_ := Aside0.mk (blk_below (g := gb1410) (o := .cells (rv a1_0) 70 (0, 0)) (by (with_reducible repeat (first | refine blk_drewN ?_ _ | refine blk_drew ?_ | refine blk_alloc ?_ _)); refine blk_far7 ?_ NB1410_1422.out; (with_reducible repeat (first | refine blk_drewN ?_ _ | refine blk_drew ?_ | refine blk_alloc ?_ _)); exact BK1410.out) hb); have n2_ := Aside0.mk (blk_below (g := gb1411) (o := .cells (rv a2_0) 70 (0, 0)) (by (with_reducible repeat (first | refine blk_drewN ?_ _ | refine blk_drew ?_ | refine blk_alloc ?_ _)); refine blk_far7 ?_ NB1411_1422.out; (with_reducible repeat (first | refine blk_drewN ?_ _ | refine blk_drew ?_ | refine blk_alloc ?_ _)); exact BK1411.out) hb); have n3_ := Aside0.mk (blk_below (g := gb1414) (o := .cells (sv t1412) 73 (0, 0)) (by (with_reducible repeat (first | refine blk_drewN ?_ _ | refine blk_drew ?_ | refine blk_alloc ?_ _)); refine blk_far7 ?_ NB1414_1422.out; (with_reducible repeat (first | refine blk_drewN ?_ _ | refine blk_drew ?_ | refine blk_alloc ?_ _)); exact BK1414.out) hb); have n4_ := Aside0.mk (blk_below (g := gb1417) (o := .cells (sv t1415) 73 (0, 0)) (by (with_reducible repeat (first | refine blk_drewN ?_ _ | refine blk_drew ?_ | refine blk_alloc ?_ _)); refine blk_far7 ?_ NB1417_1422.out; (with_reducible repeat (first | refine blk_drewN ?_ _ | refine blk_drew ?_ | refine blk_alloc ?_ _)); exact BK1417.out) hb); have n5_ := Aside0.mk (blk_below (g := gb1420) (o := .cells (sv t1418) 73 (0, 0)) (by (with_reducible repeat (first | refine blk_drewN ?_ _ | refine blk_drew ?_ | refine blk_alloc ?_ _)); refine blk_far7 ?_ NB1420_1422.out; (with_reducible repeat (first | refine blk_drewN ?_ _ | refine blk_drew ?_ | refine blk_alloc ?_ _)); exact BK1420.out) hb); have n6_ := Aside0.mk (blk_below (g := gb1422) (o := .cells (sv t1421) 73 (0, 0)) (by (with_reducible repeat (first | refine blk_drewN ?_ _ | refine blk_drew ?_ | refine blk_alloc ?_ _)); refine blk_put7z ?_; (with_reducible repeat (first | refine blk_drewN ?_ _ | refine blk_drew ?_ | refine blk_alloc ?_ _)); exact BK1422.out) hb); have n7_ := Aside0.mk (below_step (by repeat (first | (with_reducible first | exact HB.out | apply below_alloc | apply pw_below_drewN | apply below_drew1 | refine below_set ?_ GE1409.out | refine below_set ?_ GE1410.out | refine below_set ?_ GE1411.out | refine below_set ?_ GE1414.out | refine below_set ?_ GE1417.out | refine below_set ?_ GE1420.out | refine below_set ?_ GE1422.out) | exact HB.out)) hb); clear BK1409; clear BK1410; clear BK1411; clear BK1414; clear BK1417; clear BK1420; clear BK1422; clear HB; have BK1409 := n0_; have BK1410 := n1_; have BK1411 := n2_; have BK1414 := n3_; have BK1417 := n4_; have BK1420 := n5_; have BK1422 := n6_; have HB := n7_; clear n0_ n1_ n2_ n3_ n4_ n5_ n6_ n7_; (try clear hb); (try clear hb2); (try clear hk); (try clear hi)) | ((with_reducible refine gate_dst (N := 14) rfl ?_); refine box_event ?hg (N := 14) ?hd (cs := zv) (t := 73) ?hr ?_; (case hd => rfl); (case hg => rfl); (case hr => first | (go_simp; done) | (go_simp; rfl)); intro gb1424 hg w67 hbox hb; have n0_ := bkb BK1409 hb; have n1_ := bkb BK1410 hb; have n2_ := bkb BK1411 hb; have n3_ := bkb BK1414 hb; have n4_ := bkb BK1417 hb; have n5_ := bkb BK1420 hb; have n6_ := bkb BK1422 hb; have n7_ := bel HB hb; have n8_ := Aside0.mk (hbox); have n9_ := Aside0.mk ((by rw [hg]; exact (below_size HB.out) : w.heap.size ≤ gb1424)); have n10_ := Aside0.mk ((by rw [hg]; exact (below_size HB.out) : w.heap.size ≤ gb1424)); have n11_ := Aside0.mk ((by rw [hg]; exact Nat.ne_of_lt (blk_lt (g := gb1409) (o := .cells (rv a0_0) 70 (0, 0)) (by (with_reducible repeat (first | refine blk_drewN ?_ _ | refine blk_drew ?_ | refine blk_alloc ?_ _)); exact BK1409.out)) : gb1409 ≠ gb1424)); have n12_ := Aside0.mk ((by rw [hg]; exact Nat.ne_of_gt (blk_lt (g := gb1409) (o := .cells (rv a0_0) 70 (0, 0)) (by (with_reducible repeat (first | refine blk_drewN ?_ _ | refine blk_drew ?_ | refine blk_alloc ?_ _)); exact BK1409.out)) : gb1424 ≠ gb1409)); have n13_ := Aside0.mk ((by rw [hg]; exact Nat.ne_of_lt (blk_lt (g := gb1410) (o := .cells (rv a1_0) 70 (0, 0)) (by (with_reducible repeat (first | refine blk_drewN ?_ _ | refine blk_drew ?_ | refine blk_alloc ?_ _)); exact BK1410.out)) : gb1410 ≠ gb1424)); have n14_ := Aside0.mk ((by rw [hg]; exact Nat.ne_of_gt (blk_lt (g := gb1410) (o := .cells (rv a1_0) 70 (0, 0)) (by (with_reducible repeat (first | refine blk_drewN ?_ _ | refine blk_drew ?_ | refine blk_alloc ?_ _)); exact BK1410.out)) : gb1424 ≠ gb1410)); have n15_ := Aside0.mk ((by rw [hg]; exact Nat.ne_of_lt (blk_lt (g := gb1411) (o := .cells (rv a2_0) 70 (0, 0)) (by (with_reducible repeat (first | refine blk_drewN ?_ _ | refine blk_drew ?_ | refine blk_alloc ?_ _)); exact BK1411.out)) : gb1411 ≠ gb1424)); have n16_ := Aside0.mk ((by rw [hg]; exact Nat.ne_of_gt (blk_lt (g := gb1411) (o := .cells (rv a2_0) 70 (0, 0)) (by (with_reducible repeat (first | refine blk_drewN ?_ _ | refine blk_drew ?_ | refine blk_alloc ?_ _)); exact BK1411.out)) : gb1424 ≠ gb1411)); have n17_ := Aside0.mk ((by rw [hg]; exact Nat.ne_of_lt (blk_lt (g := gb1414) (o := .cells (sv t1412) 73 (0, 0)) (by (with_reducible repeat (first | refine blk_drewN ?_ _ | refine blk_drew ?_ | refine blk_alloc ?_ _)); exact BK1414.out)) : gb1414 ≠ gb1424)); have n18_ := Aside0.mk ((by rw [hg]; exact Nat.ne_of_gt (blk_lt (g := gb1414) (o := .cells (sv t1412) 73 (0, 0)) (by (with_reducible repeat (first | refine blk_drewN ?_ _ | refine blk_drew ?_ | refine blk_alloc ?_ _)); exact BK1414.out)) : gb1424 ≠ gb1414)); have n19_ := Aside0.mk ((by rw [hg]; exact Nat.ne_of_lt (blk_lt (g := gb1417) (o := .cells (sv t1415) 73 (0, 0)) (by (with_reducible repeat (first | refine blk_drewN ?_ _ | refine blk_drew ?_ | refine blk_alloc ?_ _)); exact BK1417.out)) : gb1417 ≠ gb1424)); have n20_ := Aside0.mk ((by rw [hg]; exact Nat.ne_of_gt (blk_lt (g := gb1417) (o := .cells (sv t1415) 73 (0, 0)) (by (with_reducible repeat (first | refine blk_drewN ?_ _ | refine blk_drew ?_ | refine blk_alloc ?_ _)); exact BK1417.out)) : gb1424 ≠ gb1417)); have n21_ := Aside0.mk ((by rw [hg]; exact Nat.ne_of_lt (blk_lt (g := gb1420) (o := .cells (sv t1418) 73 (0, 0)) (by (with_reducible repeat (first | refine blk_drewN ?_ _ | refine blk_drew ?_ | refine blk_alloc ?_ _)); exact BK1420.out)) : gb1420 ≠ gb1424)); have n22_ := Aside0.mk ((by rw [hg]; exact Nat.ne_of_gt (blk_lt (g := gb1420) (o := .cells (sv t1418) 73 (0, 0)) (by (with_reducible repeat (first | refine blk_drewN ?_ _ | refine blk_drew ?_ | refine blk_alloc ?_ _)); exact BK1420.out)) : gb1424 ≠ gb1420)); have n23_ := Aside0.mk ((by rw [hg]; exact Nat.ne_of_lt (blk_lt (g := gb1422) (o := .cells (sv t1421) 73 (0, 0)) (by (with_reducible repeat (first | refine blk_drewN ?_ _ | refine blk_drew ?_ | refine blk_alloc ?_ _)); exact BK1422.out)) : gb1422 ≠ gb1424)); have n24_ := Aside0.mk ((by rw [hg]; exact Nat.ne_of_gt (blk_lt (g := gb1422) (o := .cells (sv t1421) 73 (0, 0)) (by (with_reducible repeat (first | refine blk_drewN ?_ _ | refine blk_drew ?_ | refine blk_alloc ?_ _)); exact BK1422.out)) : gb1424 ≠ gb1422)); clear BK1409; clear BK1410; clear BK1411; clear BK1414; clear BK1417; clear BK1420; clear BK1422; clear HB; have BK1409 := n0_; have BK1410 := n1_; have BK1411 := n2_; have BK1414 := n3_; have BK1417 := n4_; have BK1420 := n5_; have BK1422 := n6_; have HB := n7_; have BK1424 := n8_; have GW1424 := n9_; have GE1424 := n10_; have NB1409_1424 := n11_; have NB1424_1409 := n12_; have NB1410_1424 := n13_; have NB1424_1410 := n14_; have NB1411_1424 := n15_; have NB1424_1411 := n16_; have NB1414_1424 := n17_; have NB1424_1414 := n18_; have NB1417_1424 := n19_; have NB1424_1417 := n20_; have NB1420_1424 := n21_; have NB1424_1420 := n22_; have NB1422_1424 := n23_; have NB1424_1422 := n24_; clear n0_ n1_ n2_ n3_ n4_ n5_ n6_ n7_ n8_ n9_ n10_ n11_ n12_ n13_ n14_ n15_ n16_ n17_ n18_ n19_ n20_ n21_ n22_ n23_ n24_; clear hb hbox hg; have hnb68 := NB1424_1409.out; have hnc68 := NB1409_1424.out; have hnb69 := NB1424_1410.out; have hnc69 := NB1410_1424.out; have hnb70 := NB1424_1411.out; have hnc70 := NB1411_1424.out; have hnb71 := NB1424_1414.out; have hnc71 := NB1414_1424.out; have hnb72 := NB1424_1417.out; have hnc72 := NB1417_1424.out; have hnb73 := NB1424_1420.out; have hnc73 := NB1420_1424.out; have hnb74 := NB1424_1422.out; have hnc74 := NB1422_1424.out; obtain ⟨hcz75_0, hcz75_0_c1, hcz75_0_c2, hcz75_0_c3, hcz75_0_c4, hcz75_0_c5, hcz75_0_c6⟩ := c7_of (a := z7) BK1424.out rfl; obtain ⟨hfz75_0, hfz75_0_c1, hfz75_0_c2, hfz75_0_c3, hfz75_0_c4, hfz75_0_c5, hfz75_0_c6⟩ := fz7 BK1424.out))
        (try simp only [Act.put, List.setIfInBounds_toArray, List.set_cons_zero, List.set_cons_succ])
        go_cut [86] (fun v86 wc => ∃ (kq : Nat) (x86_42 : Bool), v86 = .bool x86_42 ∧ Aside0 (chicorylaw06_ScalarRing.j1 kq x86_42 t1412 t1415 t1418 t1421 = some true) ∧ Aside0 (kq ≤ kj6) ∧ Aside0 (wc.heap[gb1409]? = some (.cells (rv a0_0) 70 (0, 0))) ∧ Aside0 (wc.heap[gb1410]? = some (.cells (rv a1_0) 70 (0, 0))) ∧ Aside0 (wc.heap[gb1411]? = some (.cells (rv a2_0) 70 (0, 0))) ∧ Aside0 (wc.heap[gb1414]? = some (.cells (sv t1412) 73 (0, 0))) ∧ Aside0 (wc.heap[gb1417]? = some (.cells (sv t1415) 73 (0, 0))) ∧ Aside0 (wc.heap[gb1420]? = some (.cells (sv t1418) 73 (0, 0))) ∧ Aside0 (wc.heap[gb1422]? = some (.cells (sv t1421) 73 (0, 0))) ∧ Aside0 (wc.heap[gb1424]? = some (.cells (sv t1423) 73 (0, 0))) ∧ Aside0 (Below w.heap.size w wc))
        case first =>
          have H := HC43.out
          clear HC43
          replace H := Option.bind_eq_some_iff.mp H
          obtain ⟨t1425, A760, H⟩ := H
          replace H : ((scalar_Equal.f kj6 t1421 t1425).bind fun t1426 => (if t1426 = true then ((scalar_Mul.f kj6 t1415 t1412).bind fun t1427 => ((scalar_Equal.f kj6 t1423 t1427).bind fun t1428 => (if t1428 = true then ((scalar_Add.f kj6 t1421 t1418).bind fun t1429 => ((scalar_Add.f kj6 t1415 t1418).bind fun t1430 => ((scalar_Add.f kj6 t1412 t1430).bind fun t1431 => ((scalar_Equal.f kj6 t1429 t1431).bind fun t1432 => (if t1432 = true then ((scalar_Mul.f kj6 t1423 t1418).bind fun t1433 => ((scalar_Mul.f kj6 t1415 t1418).bind fun t1434 => ((scalar_Mul.f kj6 t1412 t1434).bind fun t1435 => ((scalar_Equal.f kj6 t1433 t1435).bind fun t1436 => (chicorylaw06_ScalarRing.j1 kj6 (!t1436) t1412 t1415 t1418 t1421))))) else (chicorylaw06_ScalarRing.j1 kj6 true t1412 t1415 t1418 t1421)))))) else (chicorylaw06_ScalarRing.j1 kj6 true t1412 t1415 t1418 t1421)))) else (chicorylaw06_ScalarRing.j1 kj6 true t1412 t1415 t1418 t1421))) = some true := H
          have A76 := Aside0.mk A760
          clear A760
          replace H := Option.bind_eq_some_iff.mp H
          obtain ⟨t1426, A770, H⟩ := H
          replace H : (if t1426 = true then ((scalar_Mul.f kj6 t1415 t1412).bind fun t1427 => ((scalar_Equal.f kj6 t1423 t1427).bind fun t1428 => (if t1428 = true then ((scalar_Add.f kj6 t1421 t1418).bind fun t1429 => ((scalar_Add.f kj6 t1415 t1418).bind fun t1430 => ((scalar_Add.f kj6 t1412 t1430).bind fun t1431 => ((scalar_Equal.f kj6 t1429 t1431).bind fun t1432 => (if t1432 = true then ((scalar_Mul.f kj6 t1423 t1418).bind fun t1433 => ((scalar_Mul.f kj6 t1415 t1418).bind fun t1434 => ((scalar_Mul.f kj6 t1412 t1434).bind fun t1435 => ((scalar_Equal.f kj6 t1433 t1435).bind fun t1436 => (chicorylaw06_ScalarRing.j1 kj6 (!t1436) t1412 t1415 t1418 t1421))))) else (chicorylaw06_ScalarRing.j1 kj6 true t1412 t1415 t1418 t1421)))))) else (chicorylaw06_ScalarRing.j1 kj6 true t1412 t1415 t1418 t1421)))) else (chicorylaw06_ScalarRing.j1 kj6 true t1412 t1415 t1418 t1421)) = some true := H
          have A77 := Aside0.mk A770
          clear A770
          by_cases c78 : t1426 = true
          · subst c78
            have H1 : ((scalar_Mul.f kj6 t1415 t1412).bind fun t1427 => ((scalar_Equal.f kj6 t1423 t1427).bind fun t1428 => (if t1428 = true then ((scalar_Add.f kj6 t1421 t1418).bind fun t1429 => ((scalar_Add.f kj6 t1415 t1418).bind fun t1430 => ((scalar_Add.f kj6 t1412 t1430).bind fun t1431 => ((scalar_Equal.f kj6 t1429 t1431).bind fun t1432 => (if t1432 = true then ((scalar_Mul.f kj6 t1423 t1418).bind fun t1433 => ((scalar_Mul.f kj6 t1415 t1418).bind fun t1434 => ((scalar_Mul.f kj6 t1412 t1434).bind fun t1435 => ((scalar_Equal.f kj6 t1433 t1435).bind fun t1436 => (chicorylaw06_ScalarRing.j1 kj6 (!t1436) t1412 t1415 t1418 t1421))))) else (chicorylaw06_ScalarRing.j1 kj6 true t1412 t1415 t1418 t1421)))))) else (chicorylaw06_ScalarRing.j1 kj6 true t1412 t1415 t1418 t1421)))) = some true := by rw [if_pos rfl] at H; exact H
            clear H; have H := H1; clear H1
            replace H := Option.bind_eq_some_iff.mp H
            obtain ⟨t1427, A790, H⟩ := H
            replace H : ((scalar_Equal.f kj6 t1423 t1427).bind fun t1428 => (if t1428 = true then ((scalar_Add.f kj6 t1421 t1418).bind fun t1429 => ((scalar_Add.f kj6 t1415 t1418).bind fun t1430 => ((scalar_Add.f kj6 t1412 t1430).bind fun t1431 => ((scalar_Equal.f kj6 t1429 t1431).bind fun t1432 => (if t1432 = true then ((scalar_Mul.f kj6 t1423 t1418).bind fun t1433 => ((scalar_Mul.f kj6 t1415 t1418).bind fun t1434 => ((scalar_Mul.f kj6 t1412 t1434).bind fun t1435 => ((scalar_Equal.f kj6 t1433 t1435).bind fun t1436 => (chicorylaw06_ScalarRing.j1 kj6 (!t1436) t1412 t1415 t1418 t1421))))) else (chicorylaw06_ScalarRing.j1 kj6 true t1412 t1415 t1418 t1421)))))) else (chicorylaw06_ScalarRing.j1 kj6 true t1412 t1415 t1418 t1421))) = some true := H
            have A79 := Aside0.mk A790
            clear A790
            replace H := Option.bind_eq_some_iff.mp H
            obtain ⟨t1428, A800, H⟩ := H
            replace H : (if t1428 = true then ((scalar_Add.f kj6 t1421 t1418).bind fun t1429 => ((scalar_Add.f kj6 t1415 t1418).bind fun t1430 => ((scalar_Add.f kj6 t1412 t1430).bind fun t1431 => ((scalar_Equal.f kj6 t1429 t1431).bind fun t1432 => (if t1432 = true then ((scalar_Mul.f kj6 t1423 t1418).bind fun t1433 => ((scalar_Mul.f kj6 t1415 t1418).bind fun t1434 => ((scalar_Mul.f kj6 t1412 t1434).bind fun t1435 => ((scalar_Equal.f kj6 t1433 t1435).bind fun t1436 => (chicorylaw06_ScalarRing.j1 kj6 (!t1436) t1412 t1415 t1418 t1421))))) else (chicorylaw06_ScalarRing.j1 kj6 true t1412 t1415 t1418 t1421)))))) else (chicorylaw06_ScalarRing.j1 kj6 true t1412 t1415 t1418 t1421)) = some true := H
            have A80 := Aside0.mk A800
            clear A800
            by_cases c81 : t1428 = true
            · subst c81
              have H1 : ((scalar_Add.f kj6 t1421 t1418).bind fun t1429 => ((scalar_Add.f kj6 t1415 t1418).bind fun t1430 => ((scalar_Add.f kj6 t1412 t1430).bind fun t1431 => ((scalar_Equal.f kj6 t1429 t1431).bind fun t1432 => (if t1432 = true then ((scalar_Mul.f kj6 t1423 t1418).bind fun t1433 => ((scalar_Mul.f kj6 t1415 t1418).bind fun t1434 => ((scalar_Mul.f kj6 t1412 t1434).bind fun t1435 => ((scalar_Equal.f kj6 t1433 t1435).bind fun t1436 => (chicorylaw06_ScalarRing.j1 kj6 (!t1436) t1412 t1415 t1418 t1421))))) else (chicorylaw06_ScalarRing.j1 kj6 true t1412 t1415 t1418 t1421)))))) = some true := by rw [if_pos rfl] at H; exact H
              clear H; have H := H1; clear H1
              replace H := Option.bind_eq_some_iff.mp H
              obtain ⟨t1429, A820, H⟩ := H
              replace H : ((scalar_Add.f kj6 t1415 t1418).bind fun t1430 => ((scalar_Add.f kj6 t1412 t1430).bind fun t1431 => ((scalar_Equal.f kj6 t1429 t1431).bind fun t1432 => (if t1432 = true then ((scalar_Mul.f kj6 t1423 t1418).bind fun t1433 => ((scalar_Mul.f kj6 t1415 t1418).bind fun t1434 => ((scalar_Mul.f kj6 t1412 t1434).bind fun t1435 => ((scalar_Equal.f kj6 t1433 t1435).bind fun t1436 => (chicorylaw06_ScalarRing.j1 kj6 (!t1436) t1412 t1415 t1418 t1421))))) else (chicorylaw06_ScalarRing.j1 kj6 true t1412 t1415 t1418 t1421))))) = some true := H
              have A82 := Aside0.mk A820
              clear A820
              replace H := Option.bind_eq_some_iff.mp H
              obtain ⟨t1430, A830, H⟩ := H
              replace H : ((scalar_Add.f kj6 t1412 t1430).bind fun t1431 => ((scalar_Equal.f kj6 t1429 t1431).bind fun t1432 => (if t1432 = true then ((scalar_Mul.f kj6 t1423 t1418).bind fun t1433 => ((scalar_Mul.f kj6 t1415 t1418).bind fun t1434 => ((scalar_Mul.f kj6 t1412 t1434).bind fun t1435 => ((scalar_Equal.f kj6 t1433 t1435).bind fun t1436 => (chicorylaw06_ScalarRing.j1 kj6 (!t1436) t1412 t1415 t1418 t1421))))) else (chicorylaw06_ScalarRing.j1 kj6 true t1412 t1415 t1418 t1421)))) = some true := H
              have A83 := Aside0.mk A830
              clear A830
              replace H := Option.bind_eq_some_iff.mp H
              obtain ⟨t1431, A840, H⟩ := H
              replace H : ((scalar_Equal.f kj6 t1429 t1431).bind fun t1432 => (if t1432 = true then ((scalar_Mul.f kj6 t1423 t1418).bind fun t1433 => ((scalar_Mul.f kj6 t1415 t1418).bind fun t1434 => ((scalar_Mul.f kj6 t1412 t1434).bind fun t1435 => ((scalar_Equal.f kj6 t1433 t1435).bind fun t1436 => (chicorylaw06_ScalarRing.j1 kj6 (!t1436) t1412 t1415 t1418 t1421))))) else (chicorylaw06_ScalarRing.j1 kj6 true t1412 t1415 t1418 t1421))) = some true := H
              have A84 := Aside0.mk A840
              clear A840
              replace H := Option.bind_eq_some_iff.mp H
              obtain ⟨t1432, A850, H⟩ := H
              replace H : (if t1432 = true then ((scalar_Mul.f kj6 t1423 t1418).bind fun t1433 => ((scalar_Mul.f kj6 t1415 t1418).bind fun t1434 => ((scalar_Mul.f kj6 t1412 t1434).bind fun t1435 => ((scalar_Equal.f kj6 t1433 t1435).bind fun t1436 => (chicorylaw06_ScalarRing.j1 kj6 (!t1436) t1412 t1415 t1418 t1421))))) else (chicorylaw06_ScalarRing.j1 kj6 true t1412 t1415 t1418 t1421)) = some true := H
              have A85 := Aside0.mk A850
              clear A850
              by_cases c86 : t1432 = true
              · subst c86
                have H1 : ((scalar_Mul.f kj6 t1423 t1418).bind fun t1433 => ((scalar_Mul.f kj6 t1415 t1418).bind fun t1434 => ((scalar_Mul.f kj6 t1412 t1434).bind fun t1435 => ((scalar_Equal.f kj6 t1433 t1435).bind fun t1436 => (chicorylaw06_ScalarRing.j1 kj6 (!t1436) t1412 t1415 t1418 t1421))))) = some true := by rw [if_pos rfl] at H; exact H
                clear H; have H := H1; clear H1
                replace H := Option.bind_eq_some_iff.mp H
                obtain ⟨t1433, A870, H⟩ := H
                replace H : ((scalar_Mul.f kj6 t1415 t1418).bind fun t1434 => ((scalar_Mul.f kj6 t1412 t1434).bind fun t1435 => ((scalar_Equal.f kj6 t1433 t1435).bind fun t1436 => (chicorylaw06_ScalarRing.j1 kj6 (!t1436) t1412 t1415 t1418 t1421)))) = some true := H
                have A87 := Aside0.mk A870
                clear A870
                replace H := Option.bind_eq_some_iff.mp H
                obtain ⟨t1434, A880, H⟩ := H
                replace H : ((scalar_Mul.f kj6 t1412 t1434).bind fun t1435 => ((scalar_Equal.f kj6 t1433 t1435).bind fun t1436 => (chicorylaw06_ScalarRing.j1 kj6 (!t1436) t1412 t1415 t1418 t1421))) = some true := H
                have A88 := Aside0.mk A880
                clear A880
                replace H := Option.bind_eq_some_iff.mp H
                obtain ⟨t1435, A890, H⟩ := H
                replace H : ((scalar_Equal.f kj6 t1433 t1435).bind fun t1436 => (chicorylaw06_ScalarRing.j1 kj6 (!t1436) t1412 t1415 t1418 t1421)) = some true := H
                have A89 := Aside0.mk A890
                clear A890
                replace H := Option.bind_eq_some_iff.mp H
                obtain ⟨t1436, A900, H⟩ := H
                replace H : (chicorylaw06_ScalarRing.j1 kj6 (!t1436) t1412 t1415 t1418 t1421) = some true := H
                have A90 := Aside0.mk A900
                clear A900
                have H' := Aside0.mk H
                clear H
                try go_wp2
                have n0_ : Aside0 ((World.setCell (World.setCell (World.setCell (World.setCell (World.setCell (World.setCell (World.setCell w67 ⟨gb1424, 0, none⟩ (.int .u64 (g7 t1423 0))) ⟨gb1424, 1, none⟩ (.int .u64 (g7 t1423 1))) ⟨gb1424, 2, none⟩ (.int .u64 (g7 t1423 2))) ⟨gb1424, 3, none⟩ (.int .u64 (g7 t1423 3))) ⟨gb1424, 4, none⟩ (.int .u64 (g7 t1423 4))) ⟨gb1424, 5, none⟩ (.int .u64 (g7 t1423 5))) ⟨gb1424, 6, none⟩ (.int .u64 (g7 t1423 6))).heap[gb1409]? = some (.cells (rv a0_0) 70 (0, 0))) := ⟨by (with_reducible repeat (first | refine blk_drewN ?_ _ | refine blk_drew ?_ | refine blk_alloc ?_ _)); refine blk_far7 ?_ NB1409_1424.out; (with_reducible repeat (first | refine blk_drewN ?_ _ | refine blk_drew ?_ | refine blk_alloc ?_ _)); exact BK1409.out⟩
                have n1_ : Aside0 ((World.setCell (World.setCell (World.setCell (World.setCell (World.setCell (World.setCell (World.setCell w67 ⟨gb1424, 0, none⟩ (.int .u64 (g7 t1423 0))) ⟨gb1424, 1, none⟩ (.int .u64 (g7 t1423 1))) ⟨gb1424, 2, none⟩ (.int .u64 (g7 t1423 2))) ⟨gb1424, 3, none⟩ (.int .u64 (g7 t1423 3))) ⟨gb1424, 4, none⟩ (.int .u64 (g7 t1423 4))) ⟨gb1424, 5, none⟩ (.int .u64 (g7 t1423 5))) ⟨gb1424, 6, none⟩ (.int .u64 (g7 t1423 6))).heap[gb1410]? = some (.cells (rv a1_0) 70 (0, 0))) := ⟨by (with_reducible repeat (first | refine blk_drewN ?_ _ | refine blk_drew ?_ | refine blk_alloc ?_ _)); refine blk_far7 ?_ NB1410_1424.out; (with_reducible repeat (first | refine blk_drewN ?_ _ | refine blk_drew ?_ | refine blk_alloc ?_ _)); exact BK1410.out⟩
                have n2_ : Aside0 ((World.setCell (World.setCell (World.setCell (World.setCell (World.setCell (World.setCell (World.setCell w67 ⟨gb1424, 0, none⟩ (.int .u64 (g7 t1423 0))) ⟨gb1424, 1, none⟩ (.int .u64 (g7 t1423 1))) ⟨gb1424, 2, none⟩ (.int .u64 (g7 t1423 2))) ⟨gb1424, 3, none⟩ (.int .u64 (g7 t1423 3))) ⟨gb1424, 4, none⟩ (.int .u64 (g7 t1423 4))) ⟨gb1424, 5, none⟩ (.int .u64 (g7 t1423 5))) ⟨gb1424, 6, none⟩ (.int .u64 (g7 t1423 6))).heap[gb1411]? = some (.cells (rv a2_0) 70 (0, 0))) := ⟨by (with_reducible repeat (first | refine blk_drewN ?_ _ | refine blk_drew ?_ | refine blk_alloc ?_ _)); refine blk_far7 ?_ NB1411_1424.out; (with_reducible repeat (first | refine blk_drewN ?_ _ | refine blk_drew ?_ | refine blk_alloc ?_ _)); exact BK1411.out⟩
                have n3_ : Aside0 ((World.setCell (World.setCell (World.setCell (World.setCell (World.setCell (World.setCell (World.setCell w67 ⟨gb1424, 0, none⟩ (.int .u64 (g7 t1423 0))) ⟨gb1424, 1, none⟩ (.int .u64 (g7 t1423 1))) ⟨gb1424, 2, none⟩ (.int .u64 (g7 t1423 2))) ⟨gb1424, 3, none⟩ (.int .u64 (g7 t1423 3))) ⟨gb1424, 4, none⟩ (.int .u64 (g7 t1423 4))) ⟨gb1424, 5, none⟩ (.int .u64 (g7 t1423 5))) ⟨gb1424, 6, none⟩ (.int .u64 (g7 t1423 6))).heap[gb1414]? = some (.cells (sv t1412) 73 (0, 0))) := ⟨by (with_reducible repeat (first | refine blk_drewN ?_ _ | refine blk_drew ?_ | refine blk_alloc ?_ _)); refine blk_far7 ?_ NB1414_1424.out; (with_reducible repeat (first | refine blk_drewN ?_ _ | refine blk_drew ?_ | refine blk_alloc ?_ _)); exact BK1414.out⟩
                have n4_ : Aside0 ((World.setCell (World.setCell (World.setCell (World.setCell (World.setCell (World.setCell (World.setCell w67 ⟨gb1424, 0, none⟩ (.int .u64 (g7 t1423 0))) ⟨gb1424, 1, none⟩ (.int .u64 (g7 t1423 1))) ⟨gb1424, 2, none⟩ (.int .u64 (g7 t1423 2))) ⟨gb1424, 3, none⟩ (.int .u64 (g7 t1423 3))) ⟨gb1424, 4, none⟩ (.int .u64 (g7 t1423 4))) ⟨gb1424, 5, none⟩ (.int .u64 (g7 t1423 5))) ⟨gb1424, 6, none⟩ (.int .u64 (g7 t1423 6))).heap[gb1417]? = some (.cells (sv t1415) 73 (0, 0))) := ⟨by (with_reducible repeat (first | refine blk_drewN ?_ _ | refine blk_drew ?_ | refine blk_alloc ?_ _)); refine blk_far7 ?_ NB1417_1424.out; (with_reducible repeat (first | refine blk_drewN ?_ _ | refine blk_drew ?_ | refine blk_alloc ?_ _)); exact BK1417.out⟩
                have n5_ : Aside0 ((World.setCell (World.setCell (World.setCell (World.setCell (World.setCell (World.setCell (World.setCell w67 ⟨gb1424, 0, none⟩ (.int .u64 (g7 t1423 0))) ⟨gb1424, 1, none⟩ (.int .u64 (g7 t1423 1))) ⟨gb1424, 2, none⟩ (.int .u64 (g7 t1423 2))) ⟨gb1424, 3, none⟩ (.int .u64 (g7 t1423 3))) ⟨gb1424, 4, none⟩ (.int .u64 (g7 t1423 4))) ⟨gb1424, 5, none⟩ (.int .u64 (g7 t1423 5))) ⟨gb1424, 6, none⟩ (.int .u64 (g7 t1423 6))).heap[gb1420]? = some (.cells (sv t1418) 73 (0, 0))) := ⟨by (with_reducible repeat (first | refine blk_drewN ?_ _ | refine blk_drew ?_ | refine blk_alloc ?_ _)); refine blk_far7 ?_ NB1420_1424.out; (with_reducible repeat (first | refine blk_drewN ?_ _ | refine blk_drew ?_ | refine blk_alloc ?_ _)); exact BK1420.out⟩
                have n6_ : Aside0 ((World.setCell (World.setCell (World.setCell (World.setCell (World.setCell (World.setCell (World.setCell w67 ⟨gb1424, 0, none⟩ (.int .u64 (g7 t1423 0))) ⟨gb1424, 1, none⟩ (.int .u64 (g7 t1423 1))) ⟨gb1424, 2, none⟩ (.int .u64 (g7 t1423 2))) ⟨gb1424, 3, none⟩ (.int .u64 (g7 t1423 3))) ⟨gb1424, 4, none⟩ (.int .u64 (g7 t1423 4))) ⟨gb1424, 5, none⟩ (.int .u64 (g7 t1423 5))) ⟨gb1424, 6, none⟩ (.int .u64 (g7 t1423 6))).heap[gb1422]? = some (.cells (sv t1421) 73 (0, 0))) := ⟨by (with_reducible repeat (first | refine blk_drewN ?_ _ | refine blk_drew ?_ | refine blk_alloc ?_ _)); refine blk_far7 ?_ NB1422_1424.out; (with_reducible repeat (first | refine blk_drewN ?_ _ | refine blk_drew ?_ | refine blk_alloc ?_ _)); exact BK1422.out⟩
                have n7_ : Aside0 ((World.setCell (World.setCell (World.setCell (World.setCell (World.setCell (World.setCell (World.setCell w67 ⟨gb1424, 0, none⟩ (.int .u64 (g7 t1423 0))) ⟨gb1424, 1, none⟩ (.int .u64 (g7 t1423 1))) ⟨gb1424, 2, none⟩ (.int .u64 (g7 t1423 2))) ⟨gb1424, 3, none⟩ (.int .u64 (g7 t1423 3))) ⟨gb1424, 4, none⟩ (.int .u64 (g7 t1423 4))) ⟨gb1424, 5, none⟩ (.int .u64 (g7 t1423 5))) ⟨gb1424, 6, none⟩ (.int .u64 (g7 t1423 6))).heap[gb1424]? = some (.cells (sv t1423) 73 (0, 0))) := ⟨by (with_reducible repeat (first | refine blk_drewN ?_ _ | refine blk_drew ?_ | refine blk_alloc ?_ _)); refine blk_put7z ?_; (with_reducible repeat (first | refine blk_drewN ?_ _ | refine blk_drew ?_ | refine blk_alloc ?_ _)); exact BK1424.out⟩
                have n8_ : Aside0 (Below w.heap.size w (World.setCell (World.setCell (World.setCell (World.setCell (World.setCell (World.setCell (World.setCell w67 ⟨gb1424, 0, none⟩ (.int .u64 (g7 t1423 0))) ⟨gb1424, 1, none⟩ (.int .u64 (g7 t1423 1))) ⟨gb1424, 2, none⟩ (.int .u64 (g7 t1423 2))) ⟨gb1424, 3, none⟩ (.int .u64 (g7 t1423 3))) ⟨gb1424, 4, none⟩ (.int .u64 (g7 t1423 4))) ⟨gb1424, 5, none⟩ (.int .u64 (g7 t1423 5))) ⟨gb1424, 6, none⟩ (.int .u64 (g7 t1423 6)))) := ⟨by repeat (first | (with_reducible first | exact HB.out | apply below_alloc | apply pw_below_drewN | apply below_drew1 | refine below_set ?_ GE1409.out | refine below_set ?_ GE1410.out | refine below_set ?_ GE1411.out | refine below_set ?_ GE1414.out | refine below_set ?_ GE1417.out | refine below_set ?_ GE1420.out | refine below_set ?_ GE1422.out | refine below_set ?_ GE1424.out) | exact HB.out)⟩
                (try clear BK1409); (try clear BK1410); (try clear BK1411); (try clear BK1414); (try clear BK1417); (try clear BK1420); (try clear BK1422); (try clear BK1424); (try clear HB)
                generalize (World.setCell (World.setCell (World.setCell (World.setCell (World.setCell (World.setCell (World.setCell w67 ⟨gb1424, 0, none⟩ (.int .u64 (g7 t1423 0))) ⟨gb1424, 1, none⟩ (.int .u64 (g7 t1423 1))) ⟨gb1424, 2, none⟩ (.int .u64 (g7 t1423 2))) ⟨gb1424, 3, none⟩ (.int .u64 (g7 t1423 3))) ⟨gb1424, 4, none⟩ (.int .u64 (g7 t1423 4))) ⟨gb1424, 5, none⟩ (.int .u64 (g7 t1423 5))) ⟨gb1424, 6, none⟩ (.int .u64 (g7 t1423 6))) = w91 at n0_ n1_ n2_ n3_ n4_ n5_ n6_ n7_ n8_ ⊢
                have BK1409 := n0_; have BK1410 := n1_; have BK1411 := n2_; have BK1414 := n3_; have BK1417 := n4_; have BK1420 := n5_; have BK1422 := n6_; have BK1424 := n7_; have HB := n8_; clear n0_ n1_ n2_ n3_ n4_ n5_ n6_ n7_ n8_
                have n0_ := Aside0.mk (blk_drew BK1409.out)
                have n1_ := Aside0.mk (blk_drew BK1410.out)
                have n2_ := Aside0.mk (blk_drew BK1411.out)
                have n3_ := Aside0.mk (blk_drew BK1414.out)
                have n4_ := Aside0.mk (blk_drew BK1417.out)
                have n5_ := Aside0.mk (blk_drew BK1420.out)
                have n6_ := Aside0.mk (blk_drew BK1422.out)
                have n7_ := Aside0.mk (blk_drew BK1424.out)
                have n8_ := Aside0.mk (below_drew1 HB.out)
                clear BK1409; clear BK1410; clear BK1411; clear BK1414; clear BK1417; clear BK1420; clear BK1422; clear BK1424; clear HB; have BK1409 := n0_; have BK1410 := n1_; have BK1411 := n2_; have BK1414 := n3_; have BK1417 := n4_; have BK1420 := n5_; have BK1422 := n6_; have BK1424 := n7_; have HB := n8_; clear n0_ n1_ n2_ n3_ n4_ n5_ n6_ n7_ n8_
                refine start_ (n := 38) (S := fun w' => c7 w' gb1422 t1421 ∧ c7 w' gb1417 t1415 ∧ c7 w' gb1414 t1412 ∧ c7 w' gb1424 t1423 ∧ c7 w' gb1420 t1418) (ds := []) #[fA, fA, fA, fA, fA, fA, fA, fA, fA, fA, fA, fA, fA, fA, fA, fA, fA, fA, fA, fA, fA, fA, fA, fA, fA, fA, fA, fA, fA, fA, fA, fA, fA, fA, fA, fA, fA, fA] (by kernel_rfl) rfl rfl ⟨c7_of BK1422.out rfl, c7_of BK1417.out rfl, c7_of BK1414.out rfl, c7_of BK1424.out rfl, c7_of BK1420.out rfl⟩ (fun hHeld => ?_); refine with_tabW chicorylaw06_ScalarRing.tab8 chicorylaw06_ScalarRing.bits8 (fun HT_ HW_ => ?_)
                generalize w91.drew = w92 at BK1409 BK1410 BK1411 BK1414 BK1417 BK1420 BK1422 BK1424 HB hHeld ⊢
                refine take_ (i := 0) (N := some 49) (v := ?_) (a' := ?_) #[tR, fA, fA, fA, fA, fA, fA, fA, fA, fA, fA, fA, fA, fA, fA, fA, fA, fA, fA, fA, fA, fA, fA, fA, fA, fA, fA, fA, fA, fA, fA, fA, fA, fA, fA, fA, fA, fA] rfl rfl (take_ofW HT_.out HW_.out (by kernel_rfl)) (fun _ _ _ h => h) (Or.inl ⟨by rfl, ?_⟩) hHeld ?_ ?_
                rotate_left
                · rintro w' ⟨⟨s0, s0_c1, s0_c2, s0_c3, s0_c4, s0_c5, s0_c6⟩, ⟨s1, s1_c1, s1_c2, s1_c3, s1_c4, s1_c5, s1_c6⟩, ⟨s2, s2_c1, s2_c2, s2_c3, s2_c4, s2_c5, s2_c6⟩, ⟨s3, s3_c1, s3_c2, s3_c3, s3_c4, s3_c5, s3_c6⟩, ⟨s4, s4_c1, s4_c2, s4_c3, s4_c4, s4_c5, s4_c6⟩⟩
                  go_simp
                  with_reducible rfl
                rotate_left
                · simp only [Act.put, List.setIfInBounds_toArray, List.set_cons_zero, List.set_cons_succ, i64_w, i32_w]
                  rfl
                refine take_ (i := 1) (N := some 50) (v := ?_) (a' := ?_) #[tR, tR, fA, fA, fA, fA, fA, fA, fA, fA, fA, fA, fA, fA, fA, fA, fA, fA, fA, fA, fA, fA, fA, fA, fA, fA, fA, fA, fA, fA, fA, fA, fA, fA, fA, fA, fA, fA] rfl rfl (take_ofW HT_.out HW_.out (by kernel_rfl)) (fun _ _ _ h => h) (Or.inl ⟨by rfl, ?_⟩) hHeld ?_ ?_
                rotate_left
                · rintro w' ⟨⟨s0, s0_c1, s0_c2, s0_c3, s0_c4, s0_c5, s0_c6⟩, ⟨s1, s1_c1, s1_c2, s1_c3, s1_c4, s1_c5, s1_c6⟩, ⟨s2, s2_c1, s2_c2, s2_c3, s2_c4, s2_c5, s2_c6⟩, ⟨s3, s3_c1, s3_c2, s3_c3, s3_c4, s3_c5, s3_c6⟩, ⟨s4, s4_c1, s4_c2, s4_c3, s4_c4, s4_c5, s4_c6⟩⟩
                  go_simp
                  with_reducible rfl
                rotate_left
                · simp only [Act.put, List.setIfInBounds_toArray, List.set_cons_zero, List.set_cons_succ, i64_w, i32_w]
                  rfl
                refine take_ (i := 2) (N := some 51) (v := ?_) (a' := ?_) #[tR, tR, tR, fA, fA, fA, fA, fA, fA, fA, fA, fA, fA, fA, fA, fA, fA, fA, fA, fA, fA, fA, fA, fA, fA, fA, fA, fA, fA, fA, fA, fA, fA, fA, fA, fA, fA, fA] rfl rfl (take_ofW HT_.out HW_.out (by kernel_rfl)) (fun _ _ _ h => h) (Or.inl ⟨by rfl, ?_⟩) hHeld ?_ ?_
                rotate_left
                · rintro w' ⟨⟨s0, s0_c1, s0_c2, s0_c3, s0_c4, s0_c5, s0_c6⟩, ⟨s1, s1_c1, s1_c2, s1_c3, s1_c4, s1_c5, s1_c6⟩, ⟨s2, s2_c1, s2_c2, s2_c3, s2_c4, s2_c5, s2_c6⟩, ⟨s3, s3_c1, s3_c2, s3_c3, s3_c4, s3_c5, s3_c6⟩, ⟨s4, s4_c1, s4_c2, s4_c3, s4_c4, s4_c5, s4_c6⟩⟩
                  go_simp
                  with_reducible rfl
                rotate_left
                · simp only [Act.put, List.setIfInBounds_toArray, List.set_cons_zero, List.set_cons_succ, i64_w, i32_w]
                  rfl
                refine one_ (i := 3) (N := some 52) #[tR, tR, tR, tR, fA, fA, fA, fA, fA, fA, fA, fA, fA, fA, fA, fA, fA, fA, fA, fA, fA, fA, fA, fA, fA, fA, fA, fA, fA, fA, fA, fA, fA, fA, fA, fA, fA, fA] rfl rfl (one_of HT_.out (by kernel_rfl)) (by decide) (fun K hK => ?_)
                refine goes_ Try.func64 (by kernel_rfl) rfl #[.agg (sv t1415), .agg (sv t1412)] (by rfl) rfl rfl (by (try simp only [List.map_toArray, List.map_cons, List.map_nil]); first | done | rfl | (simp only [List.length_drop, List.length_take]; rfl)) ?_
                with_reducible refine (scalar_Add.calls kj6 t1415 t1412 t1425 _ A76.out).mono ?_
                rintro e w93 ⟨rfl, hb⟩
                refine ⟨_, rfl, ?_⟩
                have n0_ := bkb BK1409 hb; have n1_ := bkb BK1410 hb; have n2_ := bkb BK1411 hb; have n3_ := bkb BK1414 hb; have n4_ := bkb BK1417 hb; have n5_ := bkb BK1420 hb; have n6_ := bkb BK1422 hb; have n7_ := bkb BK1424 hb; have n8_ := bel HB hb; clear BK1409; clear BK1410; clear BK1411; clear BK1414; clear BK1417; clear BK1420; clear BK1422; clear BK1424; clear HB; have BK1409 := n0_; have BK1410 := n1_; have BK1411 := n2_; have BK1414 := n3_; have BK1417 := n4_; have BK1420 := n5_; have BK1422 := n6_; have BK1424 := n7_; have HB := n8_; clear n0_ n1_ n2_ n3_ n4_ n5_ n6_ n7_ n8_; (try clear hb); (try clear hb2); (try clear hk); (try clear hi)
                refine hK.out _ _ ⟨c7_of BK1422.out rfl, c7_of BK1417.out rfl, c7_of BK1414.out rfl, c7_of BK1424.out rfl, c7_of BK1420.out rfl⟩ (fun hHeld => ?_)
                clear hK K
                refine norm_ (a' := ?_) ?_ ?_
                rotate_left
                · show Act.put _ (some 52) _ = _
                  simp only [Act.put, List.setIfInBounds_toArray, List.set_cons_zero, List.set_cons_succ, i64_w, i32_w]
                  rfl
                refine one_ (i := 4) (N := some 53) #[tR, tR, tR, tR, tR, fA, fA, fA, fA, fA, fA, fA, fA, fA, fA, fA, fA, fA, fA, fA, fA, fA, fA, fA, fA, fA, fA, fA, fA, fA, fA, fA, fA, fA, fA, fA, fA, fA] rfl rfl (one_of HT_.out (by kernel_rfl)) (by decide) (fun K hK => ?_)
                refine goes_ Try.func76 (by kernel_rfl) rfl #[.agg (sv t1421), .agg (sv t1425)] (by rfl) rfl rfl (by (try simp only [List.map_toArray, List.map_cons, List.map_nil]); first | done | rfl | (simp only [List.length_drop, List.length_take]; rfl)) ?_
                with_reducible refine (scalar_Equal.calls kj6 t1421 t1425 true _ A77.out).mono ?_
                rintro e w94 ⟨rfl, hb⟩
                refine ⟨_, rfl, ?_⟩
                have n0_ := bkb BK1409 hb; have n1_ := bkb BK1410 hb; have n2_ := bkb BK1411 hb; have n3_ := bkb BK1414 hb; have n4_ := bkb BK1417 hb; have n5_ := bkb BK1420 hb; have n6_ := bkb BK1422 hb; have n7_ := bkb BK1424 hb; have n8_ := bel HB hb; clear BK1409; clear BK1410; clear BK1411; clear BK1414; clear BK1417; clear BK1420; clear BK1422; clear BK1424; clear HB; have BK1409 := n0_; have BK1410 := n1_; have BK1411 := n2_; have BK1414 := n3_; have BK1417 := n4_; have BK1420 := n5_; have BK1422 := n6_; have BK1424 := n7_; have HB := n8_; clear n0_ n1_ n2_ n3_ n4_ n5_ n6_ n7_ n8_; (try clear hb); (try clear hb2); (try clear hk); (try clear hi)
                refine hK.out _ _ ⟨c7_of BK1422.out rfl, c7_of BK1417.out rfl, c7_of BK1414.out rfl, c7_of BK1424.out rfl, c7_of BK1420.out rfl⟩ (fun hHeld => ?_)
                clear hK K
                refine norm_ (a' := ?_) ?_ ?_
                rotate_left
                · show Act.put _ (some 53) _ = _
                  simp only [Act.put, List.setIfInBounds_toArray, List.set_cons_zero, List.set_cons_succ, i64_w, i32_w]
                  rfl
                refine pure_ (i := 5) (N := some 54) (v := ?_) (a' := ?_) #[tR, tR, tR, tR, tR, tR, fA, fA, fA, fA, fA, fA, fA, fA, fA, fA, fA, fA, fA, fA, fA, fA, fA, fA, fA, fA, fA, fA, fA, fA, fA, fA, fA, fA, fA, fA, fA, fA] rfl rfl (any_of HT_.out (by kernel_rfl)) (fun _ _ _ h => h) (Or.inl ⟨by rfl, ?_⟩) ?_ ?_
                rotate_left
                · intro w'
                  go_simp
                  with_reducible rfl
                rotate_left
                · simp only [Act.put, List.setIfInBounds_toArray, List.set_cons_zero, List.set_cons_succ, i64_w, i32_w]
                  rfl
                refine pure_ (i := 6) (N := some 55) (v := ?_) (a' := ?_) #[tR, tR, tR, tR, tR, tR, tR, fA, fA, fA, fA, fA, fA, fA, fA, fA, fA, fA, fA, fA, fA, fA, fA, fA, fA, fA, fA, fA, fA, fA, fA, fA, fA, fA, fA, fA, fA, fA] rfl rfl (any_of HT_.out (by kernel_rfl)) (fun _ _ _ h => h) (Or.inl ⟨by rfl, ?_⟩) ?_ ?_
                rotate_left
                · intro w'
                  go_simp
                  with_reducible rfl
                rotate_left
                · simp only [Act.put, List.setIfInBounds_toArray, List.set_cons_zero, List.set_cons_succ, i64_w, i32_w]
                  rfl
                refine take_ (i := 7) (N := some 56) (v := ?_) (a' := ?_) #[tR, tR, tR, tR, tR, tR, tR, tR, fA, fA, fA, fA, fA, fA, fA, fA, fA, fA, fA, fA, fA, fA, fA, fA, fA, fA, fA, fA, fA, fA, fA, fA, fA, fA, fA, fA, fA, fA] rfl rfl (take_ofW HT_.out HW_.out (by kernel_rfl)) (fun _ _ _ h => h) (Or.inl ⟨by rfl, ?_⟩) hHeld ?_ ?_
                rotate_left
                · rintro w' ⟨⟨s0, s0_c1, s0_c2, s0_c3, s0_c4, s0_c5, s0_c6⟩, ⟨s1, s1_c1, s1_c2, s1_c3, s1_c4, s1_c5, s1_c6⟩, ⟨s2, s2_c1, s2_c2, s2_c3, s2_c4, s2_c5, s2_c6⟩, ⟨s3, s3_c1, s3_c2, s3_c3, s3_c4, s3_c5, s3_c6⟩, ⟨s4, s4_c1, s4_c2, s4_c3, s4_c4, s4_c5, s4_c6⟩⟩
                  go_simp
                  with_reducible rfl
                rotate_left
                · simp only [Act.put, List.setIfInBounds_toArray, List.set_cons_zero, List.set_cons_succ, i64_w, i32_w]
                  rfl
                refine take_ (i := 8) (N := some 57) (v := ?_) (a' := ?_) #[tR, tR, tR, tR, tR, tR, tR, tR, tR, fA, fA, fA, fA, fA, fA, fA, fA, fA, fA, fA, fA, fA, fA, fA, fA, fA, fA, fA, fA, fA, fA, fA, fA, fA, fA, fA, fA, fA] rfl rfl (take_ofW HT_.out HW_.out (by kernel_rfl)) (fun _ _ _ h => h) (Or.inl ⟨by rfl, ?_⟩) hHeld ?_ ?_
                rotate_left
                · rintro w' ⟨⟨s0, s0_c1, s0_c2, s0_c3, s0_c4, s0_c5, s0_c6⟩, ⟨s1, s1_c1, s1_c2, s1_c3, s1_c4, s1_c5, s1_c6⟩, ⟨s2, s2_c1, s2_c2, s2_c3, s2_c4, s2_c5, s2_c6⟩, ⟨s3, s3_c1, s3_c2, s3_c3, s3_c4, s3_c5, s3_c6⟩, ⟨s4, s4_c1, s4_c2, s4_c3, s4_c4, s4_c5, s4_c6⟩⟩
                  go_simp
                  with_reducible rfl
                rotate_left
                · simp only [Act.put, List.setIfInBounds_toArray, List.set_cons_zero, List.set_cons_succ, i64_w, i32_w]
                  rfl
                refine take_ (i := 9) (N := some 58) (v := ?_) (a' := ?_) #[tR, tR, tR, tR, tR, tR, tR, tR, tR, tR, fA, fA, fA, fA, fA, fA, fA, fA, fA, fA, fA, fA, fA, fA, fA, fA, fA, fA, fA, fA, fA, fA, fA, fA, fA, fA, fA, fA] rfl rfl (take_ofW HT_.out HW_.out (by kernel_rfl)) (fun _ _ _ h => h) (Or.inl ⟨by rfl, ?_⟩) hHeld ?_ ?_
                rotate_left
                · rintro w' ⟨⟨s0, s0_c1, s0_c2, s0_c3, s0_c4, s0_c5, s0_c6⟩, ⟨s1, s1_c1, s1_c2, s1_c3, s1_c4, s1_c5, s1_c6⟩, ⟨s2, s2_c1, s2_c2, s2_c3, s2_c4, s2_c5, s2_c6⟩, ⟨s3, s3_c1, s3_c2, s3_c3, s3_c4, s3_c5, s3_c6⟩, ⟨s4, s4_c1, s4_c2, s4_c3, s4_c4, s4_c5, s4_c6⟩⟩
                  go_simp
                  with_reducible rfl
                rotate_left
                · simp only [Act.put, List.setIfInBounds_toArray, List.set_cons_zero, List.set_cons_succ, i64_w, i32_w]
                  rfl
                refine one_ (i := 10) (N := some 59) #[tR, tR, tR, tR, tR, tR, tR, tR, tR, tR, tR, fA, fA, fA, fA, fA, fA, fA, fA, fA, fA, fA, fA, fA, fA, fA, fA, fA, fA, fA, fA, fA, fA, fA, fA, fA, fA, fA] rfl rfl (one_of HT_.out (by kernel_rfl)) (by decide) (fun K hK => ?_)
                refine goes_ Try.func72 (by kernel_rfl) rfl #[.agg (sv t1415), .agg (sv t1412)] (by rfl) rfl rfl (by (try simp only [List.map_toArray, List.map_cons, List.map_nil]); first | done | rfl | (simp only [List.length_drop, List.length_take]; rfl)) ?_
                with_reducible refine (scalar_Mul.calls kj6 t1415 t1412 t1427 _ A79.out).mono ?_
                rintro e w95 ⟨rfl, hb⟩
                refine ⟨_, rfl, ?_⟩
                have n0_ := bkb BK1409 hb; have n1_ := bkb BK1410 hb; have n2_ := bkb BK1411 hb; have n3_ := bkb BK1414 hb; have n4_ := bkb BK1417 hb; have n5_ := bkb BK1420 hb; have n6_ := bkb BK1422 hb; have n7_ := bkb BK1424 hb; have n8_ := bel HB hb; clear BK1409; clear BK1410; clear BK1411; clear BK1414; clear BK1417; clear BK1420; clear BK1422; clear BK1424; clear HB; have BK1409 := n0_; have BK1410 := n1_; have BK1411 := n2_; have BK1414 := n3_; have BK1417 := n4_; have BK1420 := n5_; have BK1422 := n6_; have BK1424 := n7_; have HB := n8_; clear n0_ n1_ n2_ n3_ n4_ n5_ n6_ n7_ n8_; (try clear hb); (try clear hb2); (try clear hk); (try clear hi)
                refine hK.out _ _ ⟨c7_of BK1422.out rfl, c7_of BK1417.out rfl, c7_of BK1414.out rfl, c7_of BK1424.out rfl, c7_of BK1420.out rfl⟩ (fun hHeld => ?_)
                clear hK K
                refine norm_ (a' := ?_) ?_ ?_
                rotate_left
                · show Act.put _ (some 59) _ = _
                  simp only [Act.put, List.setIfInBounds_toArray, List.set_cons_zero, List.set_cons_succ, i64_w, i32_w]
                  rfl
                refine one_ (i := 11) (N := some 60) #[tR, tR, tR, tR, tR, tR, tR, tR, tR, tR, tR, tR, fA, fA, fA, fA, fA, fA, fA, fA, fA, fA, fA, fA, fA, fA, fA, fA, fA, fA, fA, fA, fA, fA, fA, fA, fA, fA] rfl rfl (one_of HT_.out (by kernel_rfl)) (by decide) (fun K hK => ?_)
                refine goes_ Try.func76 (by kernel_rfl) rfl #[.agg (sv t1423), .agg (sv t1427)] (by rfl) rfl rfl (by (try simp only [List.map_toArray, List.map_cons, List.map_nil]); first | done | rfl | (simp only [List.length_drop, List.length_take]; rfl)) ?_
                with_reducible refine (scalar_Equal.calls kj6 t1423 t1427 true _ A80.out).mono ?_
                rintro e w96 ⟨rfl, hb⟩
                refine ⟨_, rfl, ?_⟩
                have n0_ := bkb BK1409 hb; have n1_ := bkb BK1410 hb; have n2_ := bkb BK1411 hb; have n3_ := bkb BK1414 hb; have n4_ := bkb BK1417 hb; have n5_ := bkb BK1420 hb; have n6_ := bkb BK1422 hb; have n7_ := bkb BK1424 hb; have n8_ := bel HB hb; clear BK1409; clear BK1410; clear BK1411; clear BK1414; clear BK1417; clear BK1420; clear BK1422; clear BK1424; clear HB; have BK1409 := n0_; have BK1410 := n1_; have BK1411 := n2_; have BK1414 := n3_; have BK1417 := n4_; have BK1420 := n5_; have BK1422 := n6_; have BK1424 := n7_; have HB := n8_; clear n0_ n1_ n2_ n3_ n4_ n5_ n6_ n7_ n8_; (try clear hb); (try clear hb2); (try clear hk); (try clear hi)
                refine hK.out _ _ ⟨c7_of BK1422.out rfl, c7_of BK1417.out rfl, c7_of BK1414.out rfl, c7_of BK1424.out rfl, c7_of BK1420.out rfl⟩ (fun hHeld => ?_)
                clear hK K
                refine norm_ (a' := ?_) ?_ ?_
                rotate_left
                · show Act.put _ (some 60) _ = _
                  simp only [Act.put, List.setIfInBounds_toArray, List.set_cons_zero, List.set_cons_succ, i64_w, i32_w]
                  rfl
                refine pure_ (i := 12) (N := some 61) (v := ?_) (a' := ?_) #[tR, tR, tR, tR, tR, tR, tR, tR, tR, tR, tR, tR, tR, fA, fA, fA, fA, fA, fA, fA, fA, fA, fA, fA, fA, fA, fA, fA, fA, fA, fA, fA, fA, fA, fA, fA, fA, fA] rfl rfl (any_of HT_.out (by kernel_rfl)) (fun _ _ _ h => h) (Or.inl ⟨by rfl, ?_⟩) ?_ ?_
                rotate_left
                · intro w'
                  go_simp
                  with_reducible rfl
                rotate_left
                · simp only [Act.put, List.setIfInBounds_toArray, List.set_cons_zero, List.set_cons_succ, i64_w, i32_w]
                  rfl
                refine pure_ (i := 13) (N := some 62) (v := ?_) (a' := ?_) #[tR, tR, tR, tR, tR, tR, tR, tR, tR, tR, tR, tR, tR, tR, fA, fA, fA, fA, fA, fA, fA, fA, fA, fA, fA, fA, fA, fA, fA, fA, fA, fA, fA, fA, fA, fA, fA, fA] rfl rfl (any_of HT_.out (by kernel_rfl)) (fun _ _ _ h => h) (Or.inl ⟨by rfl, ?_⟩) ?_ ?_
                rotate_left
                · intro w'
                  go_simp
                  with_reducible rfl
                rotate_left
                · simp only [Act.put, List.setIfInBounds_toArray, List.set_cons_zero, List.set_cons_succ, i64_w, i32_w]
                  rfl
                refine pure_ (i := 14) (N := some 63) (v := ?_) (a' := ?_) #[tR, tR, tR, tR, tR, tR, tR, tR, tR, tR, tR, tR, tR, tR, tR, fA, fA, fA, fA, fA, fA, fA, fA, fA, fA, fA, fA, fA, fA, fA, fA, fA, fA, fA, fA, fA, fA, fA] rfl rfl (any_of HT_.out (by kernel_rfl)) (fun _ _ _ h => h) (Or.inl ⟨by rfl, ?_⟩) ?_ ?_
                rotate_left
                · intro w'
                  go_simp
                  with_reducible rfl
                rotate_left
                · simp only [Act.put, List.setIfInBounds_toArray, List.set_cons_zero, List.set_cons_succ, i64_w, i32_w]
                  rfl
                refine take_ (i := 15) (N := some 64) (v := ?_) (a' := ?_) #[tR, tR, tR, tR, tR, tR, tR, tR, tR, tR, tR, tR, tR, tR, tR, tR, fA, fA, fA, fA, fA, fA, fA, fA, fA, fA, fA, fA, fA, fA, fA, fA, fA, fA, fA, fA, fA, fA] rfl rfl (take_ofW HT_.out HW_.out (by kernel_rfl)) (fun _ _ _ h => h) (Or.inl ⟨by rfl, ?_⟩) hHeld ?_ ?_
                rotate_left
                · rintro w' ⟨⟨s0, s0_c1, s0_c2, s0_c3, s0_c4, s0_c5, s0_c6⟩, ⟨s1, s1_c1, s1_c2, s1_c3, s1_c4, s1_c5, s1_c6⟩, ⟨s2, s2_c1, s2_c2, s2_c3, s2_c4, s2_c5, s2_c6⟩, ⟨s3, s3_c1, s3_c2, s3_c3, s3_c4, s3_c5, s3_c6⟩, ⟨s4, s4_c1, s4_c2, s4_c3, s4_c4, s4_c5, s4_c6⟩⟩
                  go_simp
                  with_reducible rfl
                rotate_left
                · simp only [Act.put, List.setIfInBounds_toArray, List.set_cons_zero, List.set_cons_succ, i64_w, i32_w]
                  rfl
                refine take_ (i := 16) (N := some 65) (v := ?_) (a' := ?_) #[tR, tR, tR, tR, tR, tR, tR, tR, tR, tR, tR, tR, tR, tR, tR, tR, tR, fA, fA, fA, fA, fA, fA, fA, fA, fA, fA, fA, fA, fA, fA, fA, fA, fA, fA, fA, fA, fA] rfl rfl (take_ofW HT_.out HW_.out (by kernel_rfl)) (fun _ _ _ h => h) (Or.inl ⟨by rfl, ?_⟩) hHeld ?_ ?_
                rotate_left
                · rintro w' ⟨⟨s0, s0_c1, s0_c2, s0_c3, s0_c4, s0_c5, s0_c6⟩, ⟨s1, s1_c1, s1_c2, s1_c3, s1_c4, s1_c5, s1_c6⟩, ⟨s2, s2_c1, s2_c2, s2_c3, s2_c4, s2_c5, s2_c6⟩, ⟨s3, s3_c1, s3_c2, s3_c3, s3_c4, s3_c5, s3_c6⟩, ⟨s4, s4_c1, s4_c2, s4_c3, s4_c4, s4_c5, s4_c6⟩⟩
                  go_simp
                  with_reducible rfl
                rotate_left
                · simp only [Act.put, List.setIfInBounds_toArray, List.set_cons_zero, List.set_cons_succ, i64_w, i32_w]
                  rfl
                refine take_ (i := 18) (N := some 67) (v := ?_) (a' := ?_) #[tR, tR, tR, tR, tR, tR, tR, tR, tR, tR, tR, tR, tR, tR, tR, tR, tR, fA, tR, fA, fA, fA, fA, fA, fA, fA, fA, fA, fA, fA, fA, fA, fA, fA, fA, fA, fA, fA] rfl rfl (take_ofW HT_.out HW_.out (by kernel_rfl)) (fun _ _ _ h => h) (Or.inl ⟨by rfl, ?_⟩) hHeld ?_ ?_
                rotate_left
                · rintro w' ⟨⟨s0, s0_c1, s0_c2, s0_c3, s0_c4, s0_c5, s0_c6⟩, ⟨s1, s1_c1, s1_c2, s1_c3, s1_c4, s1_c5, s1_c6⟩, ⟨s2, s2_c1, s2_c2, s2_c3, s2_c4, s2_c5, s2_c6⟩, ⟨s3, s3_c1, s3_c2, s3_c3, s3_c4, s3_c5, s3_c6⟩, ⟨s4, s4_c1, s4_c2, s4_c3, s4_c4, s4_c5, s4_c6⟩⟩
                  go_simp
                  with_reducible rfl
                rotate_left
                · simp only [Act.put, List.setIfInBounds_toArray, List.set_cons_zero, List.set_cons_succ, i64_w, i32_w]
                  rfl
                refine take_ (i := 19) (N := some 68) (v := ?_) (a' := ?_) #[tR, tR, tR, tR, tR, tR, tR, tR, tR, tR, tR, tR, tR, tR, tR, tR, tR, fA, tR, tR, fA, fA, fA, fA, fA, fA, fA, fA, fA, fA, fA, fA, fA, fA, fA, fA, fA, fA] rfl rfl (take_ofW HT_.out HW_.out (by kernel_rfl)) (fun _ _ _ h => h) (Or.inl ⟨by rfl, ?_⟩) hHeld ?_ ?_
                rotate_left
                · rintro w' ⟨⟨s0, s0_c1, s0_c2, s0_c3, s0_c4, s0_c5, s0_c6⟩, ⟨s1, s1_c1, s1_c2, s1_c3, s1_c4, s1_c5, s1_c6⟩, ⟨s2, s2_c1, s2_c2, s2_c3, s2_c4, s2_c5, s2_c6⟩, ⟨s3, s3_c1, s3_c2, s3_c3, s3_c4, s3_c5, s3_c6⟩, ⟨s4, s4_c1, s4_c2, s4_c3, s4_c4, s4_c5, s4_c6⟩⟩
                  go_simp
                  with_reducible rfl
                rotate_left
                · simp only [Act.put, List.setIfInBounds_toArray, List.set_cons_zero, List.set_cons_succ, i64_w, i32_w]
                  rfl
                refine take_ (i := 20) (N := some 69) (v := ?_) (a' := ?_) #[tR, tR, tR, tR, tR, tR, tR, tR, tR, tR, tR, tR, tR, tR, tR, tR, tR, fA, tR, tR, tR, fA, fA, fA, fA, fA, fA, fA, fA, fA, fA, fA, fA, fA, fA, fA, fA, fA] rfl rfl (take_ofW HT_.out HW_.out (by kernel_rfl)) (fun _ _ _ h => h) (Or.inl ⟨by rfl, ?_⟩) hHeld ?_ ?_
                rotate_left
                · rintro w' ⟨⟨s0, s0_c1, s0_c2, s0_c3, s0_c4, s0_c5, s0_c6⟩, ⟨s1, s1_c1, s1_c2, s1_c3, s1_c4, s1_c5, s1_c6⟩, ⟨s2, s2_c1, s2_c2, s2_c3, s2_c4, s2_c5, s2_c6⟩, ⟨s3, s3_c1, s3_c2, s3_c3, s3_c4, s3_c5, s3_c6⟩, ⟨s4, s4_c1, s4_c2, s4_c3, s4_c4, s4_c5, s4_c6⟩⟩
                  go_simp
                  with_reducible rfl
                rotate_left
                · simp only [Act.put, List.setIfInBounds_toArray, List.set_cons_zero, List.set_cons_succ, i64_w, i32_w]
                  rfl
                refine one_ (i := 17) (N := some 66) #[tR, tR, tR, tR, tR, tR, tR, tR, tR, tR, tR, tR, tR, tR, tR, tR, tR, tR, tR, tR, tR, fA, fA, fA, fA, fA, fA, fA, fA, fA, fA, fA, fA, fA, fA, fA, fA, fA] rfl rfl (one_of HT_.out (by kernel_rfl)) (by decide) (fun K hK => ?_)
                refine goes_ Try.func64 (by kernel_rfl) rfl #[.agg (sv t1421), .agg (sv t1418)] (by rfl) rfl rfl (by (try simp only [List.map_toArray, List.map_cons, List.map_nil]); first | done | rfl | (simp only [List.length_drop, List.length_take]; rfl)) ?_
                with_reducible refine (scalar_Add.calls kj6 t1421 t1418 t1429 _ A82.out).mono ?_
                rintro e w97 ⟨rfl, hb⟩
                refine ⟨_, rfl, ?_⟩
                have n0_ := bkb BK1409 hb; have n1_ := bkb BK1410 hb; have n2_ := bkb BK1411 hb; have n3_ := bkb BK1414 hb; have n4_ := bkb BK1417 hb; have n5_ := bkb BK1420 hb; have n6_ := bkb BK1422 hb; have n7_ := bkb BK1424 hb; have n8_ := bel HB hb; clear BK1409; clear BK1410; clear BK1411; clear BK1414; clear BK1417; clear BK1420; clear BK1422; clear BK1424; clear HB; have BK1409 := n0_; have BK1410 := n1_; have BK1411 := n2_; have BK1414 := n3_; have BK1417 := n4_; have BK1420 := n5_; have BK1422 := n6_; have BK1424 := n7_; have HB := n8_; clear n0_ n1_ n2_ n3_ n4_ n5_ n6_ n7_ n8_; (try clear hb); (try clear hb2); (try clear hk); (try clear hi)
                refine hK.out _ _ ⟨c7_of BK1422.out rfl, c7_of BK1417.out rfl, c7_of BK1414.out rfl, c7_of BK1424.out rfl, c7_of BK1420.out rfl⟩ (fun hHeld => ?_)
                clear hK K
                refine norm_ (a' := ?_) ?_ ?_
                rotate_left
                · show Act.put _ (some 66) _ = _
                  simp only [Act.put, List.setIfInBounds_toArray, List.set_cons_zero, List.set_cons_succ, i64_w, i32_w]
                  rfl
                refine one_ (i := 21) (N := some 70) #[tR, tR, tR, tR, tR, tR, tR, tR, tR, tR, tR, tR, tR, tR, tR, tR, tR, tR, tR, tR, tR, tR, fA, fA, fA, fA, fA, fA, fA, fA, fA, fA, fA, fA, fA, fA, fA, fA] rfl rfl (one_of HT_.out (by kernel_rfl)) (by decide) (fun K hK => ?_)
                refine goes_ Try.func64 (by kernel_rfl) rfl #[.agg (sv t1415), .agg (sv t1418)] (by rfl) rfl rfl (by (try simp only [List.map_toArray, List.map_cons, List.map_nil]); first | done | rfl | (simp only [List.length_drop, List.length_take]; rfl)) ?_
                with_reducible refine (scalar_Add.calls kj6 t1415 t1418 t1430 _ A83.out).mono ?_
                rintro e w98 ⟨rfl, hb⟩
                refine ⟨_, rfl, ?_⟩
                have n0_ := bkb BK1409 hb; have n1_ := bkb BK1410 hb; have n2_ := bkb BK1411 hb; have n3_ := bkb BK1414 hb; have n4_ := bkb BK1417 hb; have n5_ := bkb BK1420 hb; have n6_ := bkb BK1422 hb; have n7_ := bkb BK1424 hb; have n8_ := bel HB hb; clear BK1409; clear BK1410; clear BK1411; clear BK1414; clear BK1417; clear BK1420; clear BK1422; clear BK1424; clear HB; have BK1409 := n0_; have BK1410 := n1_; have BK1411 := n2_; have BK1414 := n3_; have BK1417 := n4_; have BK1420 := n5_; have BK1422 := n6_; have BK1424 := n7_; have HB := n8_; clear n0_ n1_ n2_ n3_ n4_ n5_ n6_ n7_ n8_; (try clear hb); (try clear hb2); (try clear hk); (try clear hi)
                refine hK.out _ _ ⟨c7_of BK1422.out rfl, c7_of BK1417.out rfl, c7_of BK1414.out rfl, c7_of BK1424.out rfl, c7_of BK1420.out rfl⟩ (fun hHeld => ?_)
                clear hK K
                refine norm_ (a' := ?_) ?_ ?_
                rotate_left
                · show Act.put _ (some 70) _ = _
                  simp only [Act.put, List.setIfInBounds_toArray, List.set_cons_zero, List.set_cons_succ, i64_w, i32_w]
                  rfl
                refine one_ (i := 22) (N := some 71) #[tR, tR, tR, tR, tR, tR, tR, tR, tR, tR, tR, tR, tR, tR, tR, tR, tR, tR, tR, tR, tR, tR, tR, fA, fA, fA, fA, fA, fA, fA, fA, fA, fA, fA, fA, fA, fA, fA] rfl rfl (one_of HT_.out (by kernel_rfl)) (by decide) (fun K hK => ?_)
                refine goes_ Try.func64 (by kernel_rfl) rfl #[.agg (sv t1412), .agg (sv t1430)] (by rfl) rfl rfl (by (try simp only [List.map_toArray, List.map_cons, List.map_nil]); first | done | rfl | (simp only [List.length_drop, List.length_take]; rfl)) ?_
                with_reducible refine (scalar_Add.calls kj6 t1412 t1430 t1431 _ A84.out).mono ?_
                rintro e w99 ⟨rfl, hb⟩
                refine ⟨_, rfl, ?_⟩
                have n0_ := bkb BK1409 hb; have n1_ := bkb BK1410 hb; have n2_ := bkb BK1411 hb; have n3_ := bkb BK1414 hb; have n4_ := bkb BK1417 hb; have n5_ := bkb BK1420 hb; have n6_ := bkb BK1422 hb; have n7_ := bkb BK1424 hb; have n8_ := bel HB hb; clear BK1409; clear BK1410; clear BK1411; clear BK1414; clear BK1417; clear BK1420; clear BK1422; clear BK1424; clear HB; have BK1409 := n0_; have BK1410 := n1_; have BK1411 := n2_; have BK1414 := n3_; have BK1417 := n4_; have BK1420 := n5_; have BK1422 := n6_; have BK1424 := n7_; have HB := n8_; clear n0_ n1_ n2_ n3_ n4_ n5_ n6_ n7_ n8_; (try clear hb); (try clear hb2); (try clear hk); (try clear hi)
                refine hK.out _ _ ⟨c7_of BK1422.out rfl, c7_of BK1417.out rfl, c7_of BK1414.out rfl, c7_of BK1424.out rfl, c7_of BK1420.out rfl⟩ (fun hHeld => ?_)
                clear hK K
                refine norm_ (a' := ?_) ?_ ?_
                rotate_left
                · show Act.put _ (some 71) _ = _
                  simp only [Act.put, List.setIfInBounds_toArray, List.set_cons_zero, List.set_cons_succ, i64_w, i32_w]
                  rfl
                refine one_ (i := 23) (N := some 72) #[tR, tR, tR, tR, tR, tR, tR, tR, tR, tR, tR, tR, tR, tR, tR, tR, tR, tR, tR, tR, tR, tR, tR, tR, fA, fA, fA, fA, fA, fA, fA, fA, fA, fA, fA, fA, fA, fA] rfl rfl (one_of HT_.out (by kernel_rfl)) (by decide) (fun K hK => ?_)
                refine goes_ Try.func76 (by kernel_rfl) rfl #[.agg (sv t1429), .agg (sv t1431)] (by rfl) rfl rfl (by (try simp only [List.map_toArray, List.map_cons, List.map_nil]); first | done | rfl | (simp only [List.length_drop, List.length_take]; rfl)) ?_
                with_reducible refine (scalar_Equal.calls kj6 t1429 t1431 true _ A85.out).mono ?_
                rintro e w100 ⟨rfl, hb⟩
                refine ⟨_, rfl, ?_⟩
                have n0_ := bkb BK1409 hb; have n1_ := bkb BK1410 hb; have n2_ := bkb BK1411 hb; have n3_ := bkb BK1414 hb; have n4_ := bkb BK1417 hb; have n5_ := bkb BK1420 hb; have n6_ := bkb BK1422 hb; have n7_ := bkb BK1424 hb; have n8_ := bel HB hb; clear BK1409; clear BK1410; clear BK1411; clear BK1414; clear BK1417; clear BK1420; clear BK1422; clear BK1424; clear HB; have BK1409 := n0_; have BK1410 := n1_; have BK1411 := n2_; have BK1414 := n3_; have BK1417 := n4_; have BK1420 := n5_; have BK1422 := n6_; have BK1424 := n7_; have HB := n8_; clear n0_ n1_ n2_ n3_ n4_ n5_ n6_ n7_ n8_; (try clear hb); (try clear hb2); (try clear hk); (try clear hi)
                refine hK.out _ _ ⟨c7_of BK1422.out rfl, c7_of BK1417.out rfl, c7_of BK1414.out rfl, c7_of BK1424.out rfl, c7_of BK1420.out rfl⟩ (fun hHeld => ?_)
                clear hK K
                refine norm_ (a' := ?_) ?_ ?_
                rotate_left
                · show Act.put _ (some 72) _ = _
                  simp only [Act.put, List.setIfInBounds_toArray, List.set_cons_zero, List.set_cons_succ, i64_w, i32_w]
                  rfl
                refine pure_ (i := 24) (N := some 73) (v := ?_) (a' := ?_) #[tR, tR, tR, tR, tR, tR, tR, tR, tR, tR, tR, tR, tR, tR, tR, tR, tR, tR, tR, tR, tR, tR, tR, tR, tR, fA, fA, fA, fA, fA, fA, fA, fA, fA, fA, fA, fA, fA] rfl rfl (any_of HT_.out (by kernel_rfl)) (fun _ _ _ h => h) (Or.inl ⟨by rfl, ?_⟩) ?_ ?_
                rotate_left
                · intro w'
                  go_simp
                  with_reducible rfl
                rotate_left
                · simp only [Act.put, List.setIfInBounds_toArray, List.set_cons_zero, List.set_cons_succ, i64_w, i32_w]
                  rfl
                refine pure_ (i := 25) (N := some 74) (v := ?_) (a' := ?_) #[tR, tR, tR, tR, tR, tR, tR, tR, tR, tR, tR, tR, tR, tR, tR, tR, tR, tR, tR, tR, tR, tR, tR, tR, tR, tR, fA, fA, fA, fA, fA, fA, fA, fA, fA, fA, fA, fA] rfl rfl (any_of HT_.out (by kernel_rfl)) (fun _ _ _ h => h) (Or.inl ⟨by rfl, ?_⟩) ?_ ?_
                rotate_left
                · intro w'
                  go_simp
                  with_reducible rfl
                rotate_left
                · simp only [Act.put, List.setIfInBounds_toArray, List.set_cons_zero, List.set_cons_succ, i64_w, i32_w]
                  rfl
                refine pure_ (i := 26) (N := some 75) (v := ?_) (a' := ?_) #[tR, tR, tR, tR, tR, tR, tR, tR, tR, tR, tR, tR, tR, tR, tR, tR, tR, tR, tR, tR, tR, tR, tR, tR, tR, tR, tR, fA, fA, fA, fA, fA, fA, fA, fA, fA, fA, fA] rfl rfl (any_of HT_.out (by kernel_rfl)) (fun _ _ _ h => h) (Or.inl ⟨by rfl, ?_⟩) ?_ ?_
                rotate_left
                · intro w'
                  go_simp
                  with_reducible rfl
                rotate_left
                · simp only [Act.put, List.setIfInBounds_toArray, List.set_cons_zero, List.set_cons_succ, i64_w, i32_w]
                  rfl
                refine take_ (i := 27) (N := some 76) (v := ?_) (a' := ?_) #[tR, tR, tR, tR, tR, tR, tR, tR, tR, tR, tR, tR, tR, tR, tR, tR, tR, tR, tR, tR, tR, tR, tR, tR, tR, tR, tR, tR, fA, fA, fA, fA, fA, fA, fA, fA, fA, fA] rfl rfl (take_ofW HT_.out HW_.out (by kernel_rfl)) (fun _ _ _ h => h) (Or.inl ⟨by rfl, ?_⟩) hHeld ?_ ?_
                rotate_left
                · rintro w' ⟨⟨s0, s0_c1, s0_c2, s0_c3, s0_c4, s0_c5, s0_c6⟩, ⟨s1, s1_c1, s1_c2, s1_c3, s1_c4, s1_c5, s1_c6⟩, ⟨s2, s2_c1, s2_c2, s2_c3, s2_c4, s2_c5, s2_c6⟩, ⟨s3, s3_c1, s3_c2, s3_c3, s3_c4, s3_c5, s3_c6⟩, ⟨s4, s4_c1, s4_c2, s4_c3, s4_c4, s4_c5, s4_c6⟩⟩
                  go_simp
                  with_reducible rfl
                rotate_left
                · simp only [Act.put, List.setIfInBounds_toArray, List.set_cons_zero, List.set_cons_succ, i64_w, i32_w]
                  rfl
                refine take_ (i := 28) (N := some 77) (v := ?_) (a' := ?_) #[tR, tR, tR, tR, tR, tR, tR, tR, tR, tR, tR, tR, tR, tR, tR, tR, tR, tR, tR, tR, tR, tR, tR, tR, tR, tR, tR, tR, tR, fA, fA, fA, fA, fA, fA, fA, fA, fA] rfl rfl (take_ofW HT_.out HW_.out (by kernel_rfl)) (fun _ _ _ h => h) (Or.inl ⟨by rfl, ?_⟩) hHeld ?_ ?_
                rotate_left
                · rintro w' ⟨⟨s0, s0_c1, s0_c2, s0_c3, s0_c4, s0_c5, s0_c6⟩, ⟨s1, s1_c1, s1_c2, s1_c3, s1_c4, s1_c5, s1_c6⟩, ⟨s2, s2_c1, s2_c2, s2_c3, s2_c4, s2_c5, s2_c6⟩, ⟨s3, s3_c1, s3_c2, s3_c3, s3_c4, s3_c5, s3_c6⟩, ⟨s4, s4_c1, s4_c2, s4_c3, s4_c4, s4_c5, s4_c6⟩⟩
                  go_simp
                  with_reducible rfl
                rotate_left
                · simp only [Act.put, List.setIfInBounds_toArray, List.set_cons_zero, List.set_cons_succ, i64_w, i32_w]
                  rfl
                refine take_ (i := 30) (N := some 79) (v := ?_) (a' := ?_) #[tR, tR, tR, tR, tR, tR, tR, tR, tR, tR, tR, tR, tR, tR, tR, tR, tR, tR, tR, tR, tR, tR, tR, tR, tR, tR, tR, tR, tR, fA, tR, fA, fA, fA, fA, fA, fA, fA] rfl rfl (take_ofW HT_.out HW_.out (by kernel_rfl)) (fun _ _ _ h => h) (Or.inl ⟨by rfl, ?_⟩) hHeld ?_ ?_
                rotate_left
                · rintro w' ⟨⟨s0, s0_c1, s0_c2, s0_c3, s0_c4, s0_c5, s0_c6⟩, ⟨s1, s1_c1, s1_c2, s1_c3, s1_c4, s1_c5, s1_c6⟩, ⟨s2, s2_c1, s2_c2, s2_c3, s2_c4, s2_c5, s2_c6⟩, ⟨s3, s3_c1, s3_c2, s3_c3, s3_c4, s3_c5, s3_c6⟩, ⟨s4, s4_c1, s4_c2, s4_c3, s4_c4, s4_c5, s4_c6⟩⟩
                  go_simp
                  with_reducible rfl
                rotate_left
                · simp only [Act.put, List.setIfInBounds_toArray, List.set_cons_zero, List.set_cons_succ, i64_w, i32_w]
                  rfl
                refine take_ (i := 31) (N := some 80) (v := ?_) (a' := ?_) #[tR, tR, tR, tR, tR, tR, tR, tR, tR, tR, tR, tR, tR, tR, tR, tR, tR, tR, tR, tR, tR, tR, tR, tR, tR, tR, tR, tR, tR, fA, tR, tR, fA, fA, fA, fA, fA, fA] rfl rfl (take_ofW HT_.out HW_.out (by kernel_rfl)) (fun _ _ _ h => h) (Or.inl ⟨by rfl, ?_⟩) hHeld ?_ ?_
                rotate_left
                · rintro w' ⟨⟨s0, s0_c1, s0_c2, s0_c3, s0_c4, s0_c5, s0_c6⟩, ⟨s1, s1_c1, s1_c2, s1_c3, s1_c4, s1_c5, s1_c6⟩, ⟨s2, s2_c1, s2_c2, s2_c3, s2_c4, s2_c5, s2_c6⟩, ⟨s3, s3_c1, s3_c2, s3_c3, s3_c4, s3_c5, s3_c6⟩, ⟨s4, s4_c1, s4_c2, s4_c3, s4_c4, s4_c5, s4_c6⟩⟩
                  go_simp
                  with_reducible rfl
                rotate_left
                · simp only [Act.put, List.setIfInBounds_toArray, List.set_cons_zero, List.set_cons_succ, i64_w, i32_w]
                  rfl
                refine take_ (i := 32) (N := some 81) (v := ?_) (a' := ?_) #[tR, tR, tR, tR, tR, tR, tR, tR, tR, tR, tR, tR, tR, tR, tR, tR, tR, tR, tR, tR, tR, tR, tR, tR, tR, tR, tR, tR, tR, fA, tR, tR, tR, fA, fA, fA, fA, fA] rfl rfl (take_ofW HT_.out HW_.out (by kernel_rfl)) (fun _ _ _ h => h) (Or.inl ⟨by rfl, ?_⟩) hHeld ?_ ?_
                rotate_left
                · rintro w' ⟨⟨s0, s0_c1, s0_c2, s0_c3, s0_c4, s0_c5, s0_c6⟩, ⟨s1, s1_c1, s1_c2, s1_c3, s1_c4, s1_c5, s1_c6⟩, ⟨s2, s2_c1, s2_c2, s2_c3, s2_c4, s2_c5, s2_c6⟩, ⟨s3, s3_c1, s3_c2, s3_c3, s3_c4, s3_c5, s3_c6⟩, ⟨s4, s4_c1, s4_c2, s4_c3, s4_c4, s4_c5, s4_c6⟩⟩
                  go_simp
                  with_reducible rfl
                rotate_left
                · simp only [Act.put, List.setIfInBounds_toArray, List.set_cons_zero, List.set_cons_succ, i64_w, i32_w]
                  rfl
                refine one_ (i := 29) (N := some 78) #[tR, tR, tR, tR, tR, tR, tR, tR, tR, tR, tR, tR, tR, tR, tR, tR, tR, tR, tR, tR, tR, tR, tR, tR, tR, tR, tR, tR, tR, tR, tR, tR, tR, fA, fA, fA, fA, fA] rfl rfl (one_of HT_.out (by kernel_rfl)) (by decide) (fun K hK => ?_)
                refine goes_ Try.func72 (by kernel_rfl) rfl #[.agg (sv t1423), .agg (sv t1418)] (by rfl) rfl rfl (by (try simp only [List.map_toArray, List.map_cons, List.map_nil]); first | done | rfl | (simp only [List.length_drop, List.length_take]; rfl)) ?_
                with_reducible refine (scalar_Mul.calls kj6 t1423 t1418 t1433 _ A87.out).mono ?_
                rintro e w101 ⟨rfl, hb⟩
                refine ⟨_, rfl, ?_⟩
                have n0_ := bkb BK1409 hb; have n1_ := bkb BK1410 hb; have n2_ := bkb BK1411 hb; have n3_ := bkb BK1414 hb; have n4_ := bkb BK1417 hb; have n5_ := bkb BK1420 hb; have n6_ := bkb BK1422 hb; have n7_ := bkb BK1424 hb; have n8_ := bel HB hb; clear BK1409; clear BK1410; clear BK1411; clear BK1414; clear BK1417; clear BK1420; clear BK1422; clear BK1424; clear HB; have BK1409 := n0_; have BK1410 := n1_; have BK1411 := n2_; have BK1414 := n3_; have BK1417 := n4_; have BK1420 := n5_; have BK1422 := n6_; have BK1424 := n7_; have HB := n8_; clear n0_ n1_ n2_ n3_ n4_ n5_ n6_ n7_ n8_; (try clear hb); (try clear hb2); (try clear hk); (try clear hi)
                refine hK.out _ _ ⟨c7_of BK1422.out rfl, c7_of BK1417.out rfl, c7_of BK1414.out rfl, c7_of BK1424.out rfl, c7_of BK1420.out rfl⟩ (fun hHeld => ?_)
                clear hK K
                refine norm_ (a' := ?_) ?_ ?_
                rotate_left
                · show Act.put _ (some 78) _ = _
                  simp only [Act.put, List.setIfInBounds_toArray, List.set_cons_zero, List.set_cons_succ, i64_w, i32_w]
                  rfl
                refine one_ (i := 33) (N := some 82) #[tR, tR, tR, tR, tR, tR, tR, tR, tR, tR, tR, tR, tR, tR, tR, tR, tR, tR, tR, tR, tR, tR, tR, tR, tR, tR, tR, tR, tR, tR, tR, tR, tR, tR, fA, fA, fA, fA] rfl rfl (one_of HT_.out (by kernel_rfl)) (by decide) (fun K hK => ?_)
                refine goes_ Try.func72 (by kernel_rfl) rfl #[.agg (sv t1415), .agg (sv t1418)] (by rfl) rfl rfl (by (try simp only [List.map_toArray, List.map_cons, List.map_nil]); first | done | rfl | (simp only [List.length_drop, List.length_take]; rfl)) ?_
                with_reducible refine (scalar_Mul.calls kj6 t1415 t1418 t1434 _ A88.out).mono ?_
                rintro e w102 ⟨rfl, hb⟩
                refine ⟨_, rfl, ?_⟩
                have n0_ := bkb BK1409 hb; have n1_ := bkb BK1410 hb; have n2_ := bkb BK1411 hb; have n3_ := bkb BK1414 hb; have n4_ := bkb BK1417 hb; have n5_ := bkb BK1420 hb; have n6_ := bkb BK1422 hb; have n7_ := bkb BK1424 hb; have n8_ := bel HB hb; clear BK1409; clear BK1410; clear BK1411; clear BK1414; clear BK1417; clear BK1420; clear BK1422; clear BK1424; clear HB; have BK1409 := n0_; have BK1410 := n1_; have BK1411 := n2_; have BK1414 := n3_; have BK1417 := n4_; have BK1420 := n5_; have BK1422 := n6_; have BK1424 := n7_; have HB := n8_; clear n0_ n1_ n2_ n3_ n4_ n5_ n6_ n7_ n8_; (try clear hb); (try clear hb2); (try clear hk); (try clear hi)
                refine hK.out _ _ ⟨c7_of BK1422.out rfl, c7_of BK1417.out rfl, c7_of BK1414.out rfl, c7_of BK1424.out rfl, c7_of BK1420.out rfl⟩ (fun hHeld => ?_)
                clear hK K
                refine norm_ (a' := ?_) ?_ ?_
                rotate_left
                · show Act.put _ (some 82) _ = _
                  simp only [Act.put, List.setIfInBounds_toArray, List.set_cons_zero, List.set_cons_succ, i64_w, i32_w]
                  rfl
                refine one_ (i := 34) (N := some 83) #[tR, tR, tR, tR, tR, tR, tR, tR, tR, tR, tR, tR, tR, tR, tR, tR, tR, tR, tR, tR, tR, tR, tR, tR, tR, tR, tR, tR, tR, tR, tR, tR, tR, tR, tR, fA, fA, fA] rfl rfl (one_of HT_.out (by kernel_rfl)) (by decide) (fun K hK => ?_)
                refine goes_ Try.func72 (by kernel_rfl) rfl #[.agg (sv t1412), .agg (sv t1434)] (by rfl) rfl rfl (by (try simp only [List.map_toArray, List.map_cons, List.map_nil]); first | done | rfl | (simp only [List.length_drop, List.length_take]; rfl)) ?_
                with_reducible refine (scalar_Mul.calls kj6 t1412 t1434 t1435 _ A89.out).mono ?_
                rintro e w103 ⟨rfl, hb⟩
                refine ⟨_, rfl, ?_⟩
                have n0_ := bkb BK1409 hb; have n1_ := bkb BK1410 hb; have n2_ := bkb BK1411 hb; have n3_ := bkb BK1414 hb; have n4_ := bkb BK1417 hb; have n5_ := bkb BK1420 hb; have n6_ := bkb BK1422 hb; have n7_ := bkb BK1424 hb; have n8_ := bel HB hb; clear BK1409; clear BK1410; clear BK1411; clear BK1414; clear BK1417; clear BK1420; clear BK1422; clear BK1424; clear HB; have BK1409 := n0_; have BK1410 := n1_; have BK1411 := n2_; have BK1414 := n3_; have BK1417 := n4_; have BK1420 := n5_; have BK1422 := n6_; have BK1424 := n7_; have HB := n8_; clear n0_ n1_ n2_ n3_ n4_ n5_ n6_ n7_ n8_; (try clear hb); (try clear hb2); (try clear hk); (try clear hi)
                refine hK.out _ _ ⟨c7_of BK1422.out rfl, c7_of BK1417.out rfl, c7_of BK1414.out rfl, c7_of BK1424.out rfl, c7_of BK1420.out rfl⟩ (fun hHeld => ?_)
                clear hK K
                refine norm_ (a' := ?_) ?_ ?_
                rotate_left
                · show Act.put _ (some 83) _ = _
                  simp only [Act.put, List.setIfInBounds_toArray, List.set_cons_zero, List.set_cons_succ, i64_w, i32_w]
                  rfl
                refine one_ (i := 35) (N := some 84) #[tR, tR, tR, tR, tR, tR, tR, tR, tR, tR, tR, tR, tR, tR, tR, tR, tR, tR, tR, tR, tR, tR, tR, tR, tR, tR, tR, tR, tR, tR, tR, tR, tR, tR, tR, tR, fA, fA] rfl rfl (one_of HT_.out (by kernel_rfl)) (by decide) (fun K hK => ?_)
                refine goes_ Try.func76 (by kernel_rfl) rfl #[.agg (sv t1433), .agg (sv t1435)] (by rfl) rfl rfl (by (try simp only [List.map_toArray, List.map_cons, List.map_nil]); first | done | rfl | (simp only [List.length_drop, List.length_take]; rfl)) ?_
                with_reducible refine (scalar_Equal.calls kj6 t1433 t1435 t1436 _ A90.out).mono ?_
                rintro e w104 ⟨rfl, hb⟩
                refine ⟨_, rfl, ?_⟩
                have n0_ := bkb BK1409 hb; have n1_ := bkb BK1410 hb; have n2_ := bkb BK1411 hb; have n3_ := bkb BK1414 hb; have n4_ := bkb BK1417 hb; have n5_ := bkb BK1420 hb; have n6_ := bkb BK1422 hb; have n7_ := bkb BK1424 hb; have n8_ := bel HB hb; clear BK1409; clear BK1410; clear BK1411; clear BK1414; clear BK1417; clear BK1420; clear BK1422; clear BK1424; clear HB; have BK1409 := n0_; have BK1410 := n1_; have BK1411 := n2_; have BK1414 := n3_; have BK1417 := n4_; have BK1420 := n5_; have BK1422 := n6_; have BK1424 := n7_; have HB := n8_; clear n0_ n1_ n2_ n3_ n4_ n5_ n6_ n7_ n8_; (try clear hb); (try clear hb2); (try clear hk); (try clear hi)
                refine hK.out _ _ ⟨c7_of BK1422.out rfl, c7_of BK1417.out rfl, c7_of BK1414.out rfl, c7_of BK1424.out rfl, c7_of BK1420.out rfl⟩ (fun hHeld => ?_)
                clear hK K
                refine norm_ (a' := ?_) ?_ ?_
                rotate_left
                · show Act.put _ (some 84) _ = _
                  simp only [Act.put, List.setIfInBounds_toArray, List.set_cons_zero, List.set_cons_succ, i64_w, i32_w]
                  rfl
                refine pure_ (i := 36) (N := some 85) (v := ?_) (a' := ?_) #[tR, tR, tR, tR, tR, tR, tR, tR, tR, tR, tR, tR, tR, tR, tR, tR, tR, tR, tR, tR, tR, tR, tR, tR, tR, tR, tR, tR, tR, tR, tR, tR, tR, tR, tR, tR, tR, fA] rfl rfl (any_of HT_.out (by kernel_rfl)) (fun _ _ _ h => h) (Or.inl ⟨by rfl, ?_⟩) ?_ ?_
                rotate_left
                · intro w'
                  go_simp
                  with_reducible rfl
                rotate_left
                · simp only [Act.put, List.setIfInBounds_toArray, List.set_cons_zero, List.set_cons_succ, i64_w, i32_w]
                  rfl
                refine pure_ (i := 37) (N := some 86) (v := ?_) (a' := ?_) #[tR, tR, tR, tR, tR, tR, tR, tR, tR, tR, tR, tR, tR, tR, tR, tR, tR, tR, tR, tR, tR, tR, tR, tR, tR, tR, tR, tR, tR, tR, tR, tR, tR, tR, tR, tR, tR, tR] rfl rfl (any_of HT_.out (by kernel_rfl)) (fun _ _ _ h => h) (Or.inl ⟨by rfl, ?_⟩) ?_ ?_
                rotate_left
                · intro w'
                  go_simp
                  with_reducible rfl
                rotate_left
                · simp only [Act.put, List.setIfInBounds_toArray, List.set_cons_zero, List.set_cons_succ, i64_w, i32_w]
                  rfl
                refine done_ (done_of HT_.out (by kernel_rfl)) ?_
                try go_wp2
                go_meet
                case rel => exact ⟨_, (!t1436), (by first | rfl | (simp; done) | (simp [*]; done)), H', ⟨by have := HJ6.out; first | omega | exact Nat.le_refl _⟩, ⟨by (with_reducible repeat (first | refine blk_drewN ?_ _ | refine blk_drew ?_ | refine blk_alloc ?_ _)); exact BK1409.out⟩, ⟨by (with_reducible repeat (first | refine blk_drewN ?_ _ | refine blk_drew ?_ | refine blk_alloc ?_ _)); exact BK1410.out⟩, ⟨by (with_reducible repeat (first | refine blk_drewN ?_ _ | refine blk_drew ?_ | refine blk_alloc ?_ _)); exact BK1411.out⟩, ⟨by (with_reducible repeat (first | refine blk_drewN ?_ _ | refine blk_drew ?_ | refine blk_alloc ?_ _)); exact BK1414.out⟩, ⟨by (with_reducible repeat (first | refine blk_drewN ?_ _ | refine blk_drew ?_ | refine blk_alloc ?_ _)); exact BK1417.out⟩, ⟨by (with_reducible repeat (first | refine blk_drewN ?_ _ | refine blk_drew ?_ | refine blk_alloc ?_ _)); exact BK1420.out⟩, ⟨by (with_reducible repeat (first | refine blk_drewN ?_ _ | refine blk_drew ?_ | refine blk_alloc ?_ _)); exact BK1422.out⟩, ⟨by (with_reducible repeat (first | refine blk_drewN ?_ _ | refine blk_drew ?_ | refine blk_alloc ?_ _)); exact BK1424.out⟩, ⟨by repeat (first | (with_reducible first | exact HB.out | apply below_alloc | apply pw_below_drewN | apply below_drew1 | refine below_set ?_ GE1409.out | refine below_set ?_ GE1410.out | refine below_set ?_ GE1411.out | refine below_set ?_ GE1414.out | refine below_set ?_ GE1417.out | refine below_set ?_ GE1420.out | refine below_set ?_ GE1422.out | refine below_set ?_ GE1424.out) | exact HB.out)⟩⟩
              · replace c86 := Bool.eq_false_iff.mpr c86
                subst c86
                have H1 : (chicorylaw06_ScalarRing.j1 kj6 true t1412 t1415 t1418 t1421) = some true := by rw [if_neg (show ¬ (false = true) by decide)] at H; exact H
                exact absurd H1 (by intro h_; revert h_; cases kj6 <;> simp [chicorylaw06_ScalarRing.j1])
            · replace c81 := Bool.eq_false_iff.mpr c81
              subst c81
              have H1 : (chicorylaw06_ScalarRing.j1 kj6 true t1412 t1415 t1418 t1421) = some true := by rw [if_neg (show ¬ (false = true) by decide)] at H; exact H
              exact absurd H1 (by intro h_; revert h_; cases kj6 <;> simp [chicorylaw06_ScalarRing.j1])
          · replace c78 := Bool.eq_false_iff.mpr c78
            subst c78
            have H1 : (chicorylaw06_ScalarRing.j1 kj6 true t1412 t1415 t1418 t1421) = some true := by rw [if_neg (show ¬ (false = true) by decide)] at H; exact H
            exact absurd H1 (by intro h_; revert h_; cases kj6 <;> simp [chicorylaw06_ScalarRing.j1])
        case rest =>
          clear HC43
          try clear p2
          try clear c6
          try clear c7
          try clear c64
          try clear c72
          try clear c76
          try clear c78
          obtain ⟨kq, x86_42, rfl, HA, HJ42, BK1409, BK1410, BK1411, BK1414, BK1417, BK1420, BK1422, BK1424, HB⟩ := hcut
          cases kq with
          | zero => exact absurd HA.out (by simp [chicorylaw06_ScalarRing.j1])
          | succ kj42 =>
            have H := HA.out
            clear HA
            simp only [chicorylaw06_ScalarRing.j1] at H
            by_cases c125 : x86_42 = true
            · subst c125
              have H1 : (some false) = some true := by rw [if_pos rfl] at H; exact H
              clear H; have H := H1; clear H1
              exact absurd H (by simp)
            · replace c125 := Bool.eq_false_iff.mpr c125
              subst c125
              have H1 : ((scalar_Mul.f kj42 t1421 t1418).bind fun t1437 => ((scalar_Mul.f kj42 t1412 t1418).bind fun t1438 => ((scalar_Mul.f kj42 t1415 t1418).bind fun t1439 => ((scalar_Add.f kj42 t1438 t1439).bind fun t1440 => ((scalar_Equal.f kj42 t1437 t1440).bind fun t1441 => (if t1441 = true then ((scalar_Sub.f kj42 t1421 t1415).bind fun t1442 => ((scalar_Equal.f kj42 t1442 t1412).bind fun t1443 => (if t1443 = true then ((scalar_Int.f kj42 1).bind fun t1444 => ((scalar_Mul.f kj42 t1412 t1444).bind fun t1445 => ((scalar_Equal.f kj42 t1445 t1412).bind fun t1446 => (chicorylaw06_ScalarRing.j2 kj42 (!t1446) t1412)))) else (chicorylaw06_ScalarRing.j2 kj42 true t1412)))) else (chicorylaw06_ScalarRing.j2 kj42 true t1412))))))) = some true := by rw [if_neg (show ¬ (false = true) by decide)] at H; exact H
              clear H; have H := H1; clear H1
              have HC126 := Aside0.mk H
              clear H
              go_upto_region 10 with (fail)
              go_cut [114] (fun v114 wc => ∃ (kq : Nat) (x114_125 : Bool), v114 = .bool x114_125 ∧ Aside0 (chicorylaw06_ScalarRing.j2 kq x114_125 t1412 = some true) ∧ Aside0 (kq ≤ kj42) ∧ Aside0 (wc.heap[gb1409]? = some (.cells (rv a0_0) 70 (0, 0))) ∧ Aside0 (wc.heap[gb1410]? = some (.cells (rv a1_0) 70 (0, 0))) ∧ Aside0 (wc.heap[gb1411]? = some (.cells (rv a2_0) 70 (0, 0))) ∧ Aside0 (wc.heap[gb1414]? = some (.cells (sv t1412) 73 (0, 0))) ∧ Aside0 (wc.heap[gb1417]? = some (.cells (sv t1415) 73 (0, 0))) ∧ Aside0 (wc.heap[gb1420]? = some (.cells (sv t1418) 73 (0, 0))) ∧ Aside0 (wc.heap[gb1422]? = some (.cells (sv t1421) 73 (0, 0))) ∧ Aside0 (wc.heap[gb1424]? = some (.cells (sv t1423) 73 (0, 0))) ∧ Aside0 (Below w.heap.size w wc))
              case first =>
                have H := HC126.out
                clear HC126
                replace H := Option.bind_eq_some_iff.mp H
                obtain ⟨t1437, A1270, H⟩ := H
                replace H : ((scalar_Mul.f kj42 t1412 t1418).bind fun t1438 => ((scalar_Mul.f kj42 t1415 t1418).bind fun t1439 => ((scalar_Add.f kj42 t1438 t1439).bind fun t1440 => ((scalar_Equal.f kj42 t1437 t1440).bind fun t1441 => (if t1441 = true then ((scalar_Sub.f kj42 t1421 t1415).bind fun t1442 => ((scalar_Equal.f kj42 t1442 t1412).bind fun t1443 => (if t1443 = true then ((scalar_Int.f kj42 1).bind fun t1444 => ((scalar_Mul.f kj42 t1412 t1444).bind fun t1445 => ((scalar_Equal.f kj42 t1445 t1412).bind fun t1446 => (chicorylaw06_ScalarRing.j2 kj42 (!t1446) t1412)))) else (chicorylaw06_ScalarRing.j2 kj42 true t1412)))) else (chicorylaw06_ScalarRing.j2 kj42 true t1412)))))) = some true := H
                have A127 := Aside0.mk A1270
                clear A1270
                replace H := Option.bind_eq_some_iff.mp H
                obtain ⟨t1438, A1280, H⟩ := H
                replace H : ((scalar_Mul.f kj42 t1415 t1418).bind fun t1439 => ((scalar_Add.f kj42 t1438 t1439).bind fun t1440 => ((scalar_Equal.f kj42 t1437 t1440).bind fun t1441 => (if t1441 = true then ((scalar_Sub.f kj42 t1421 t1415).bind fun t1442 => ((scalar_Equal.f kj42 t1442 t1412).bind fun t1443 => (if t1443 = true then ((scalar_Int.f kj42 1).bind fun t1444 => ((scalar_Mul.f kj42 t1412 t1444).bind fun t1445 => ((scalar_Equal.f kj42 t1445 t1412).bind fun t1446 => (chicorylaw06_ScalarRing.j2 kj42 (!t1446) t1412)))) else (chicorylaw06_ScalarRing.j2 kj42 true t1412)))) else (chicorylaw06_ScalarRing.j2 kj42 true t1412))))) = some true := H
                have A128 := Aside0.mk A1280
                clear A1280
                replace H := Option.bind_eq_some_iff.mp H
                obtain ⟨t1439, A1290, H⟩ := H
                replace H : ((scalar_Add.f kj42 t1438 t1439).bind fun t1440 => ((scalar_Equal.f kj42 t1437 t1440).bind fun t1441 => (if t1441 = true then ((scalar_Sub.f kj42 t1421 t1415).bind fun t1442 => ((scalar_Equal.f kj42 t1442 t1412).bind fun t1443 => (if t1443 = true then ((scalar_Int.f kj42 1).bind fun t1444 => ((scalar_Mul.f kj42 t1412 t1444).bind fun t1445 => ((scalar_Equal.f kj42 t1445 t1412).bind fun t1446 => (chicorylaw06_ScalarRing.j2 kj42 (!t1446) t1412)))) else (chicorylaw06_ScalarRing.j2 kj42 true t1412)))) else (chicorylaw06_ScalarRing.j2 kj42 true t1412)))) = some true := H
                have A129 := Aside0.mk A1290
                clear A1290
                replace H := Option.bind_eq_some_iff.mp H
                obtain ⟨t1440, A1300, H⟩ := H
                replace H : ((scalar_Equal.f kj42 t1437 t1440).bind fun t1441 => (if t1441 = true then ((scalar_Sub.f kj42 t1421 t1415).bind fun t1442 => ((scalar_Equal.f kj42 t1442 t1412).bind fun t1443 => (if t1443 = true then ((scalar_Int.f kj42 1).bind fun t1444 => ((scalar_Mul.f kj42 t1412 t1444).bind fun t1445 => ((scalar_Equal.f kj42 t1445 t1412).bind fun t1446 => (chicorylaw06_ScalarRing.j2 kj42 (!t1446) t1412)))) else (chicorylaw06_ScalarRing.j2 kj42 true t1412)))) else (chicorylaw06_ScalarRing.j2 kj42 true t1412))) = some true := H
                have A130 := Aside0.mk A1300
                clear A1300
                replace H := Option.bind_eq_some_iff.mp H
                obtain ⟨t1441, A1310, H⟩ := H
                replace H : (if t1441 = true then ((scalar_Sub.f kj42 t1421 t1415).bind fun t1442 => ((scalar_Equal.f kj42 t1442 t1412).bind fun t1443 => (if t1443 = true then ((scalar_Int.f kj42 1).bind fun t1444 => ((scalar_Mul.f kj42 t1412 t1444).bind fun t1445 => ((scalar_Equal.f kj42 t1445 t1412).bind fun t1446 => (chicorylaw06_ScalarRing.j2 kj42 (!t1446) t1412)))) else (chicorylaw06_ScalarRing.j2 kj42 true t1412)))) else (chicorylaw06_ScalarRing.j2 kj42 true t1412)) = some true := H
                have A131 := Aside0.mk A1310
                clear A1310
                by_cases c132 : t1441 = true
                · subst c132
                  have H1 : ((scalar_Sub.f kj42 t1421 t1415).bind fun t1442 => ((scalar_Equal.f kj42 t1442 t1412).bind fun t1443 => (if t1443 = true then ((scalar_Int.f kj42 1).bind fun t1444 => ((scalar_Mul.f kj42 t1412 t1444).bind fun t1445 => ((scalar_Equal.f kj42 t1445 t1412).bind fun t1446 => (chicorylaw06_ScalarRing.j2 kj42 (!t1446) t1412)))) else (chicorylaw06_ScalarRing.j2 kj42 true t1412)))) = some true := by rw [if_pos rfl] at H; exact H
                  clear H; have H := H1; clear H1
                  replace H := Option.bind_eq_some_iff.mp H
                  obtain ⟨t1442, A1330, H⟩ := H
                  replace H : ((scalar_Equal.f kj42 t1442 t1412).bind fun t1443 => (if t1443 = true then ((scalar_Int.f kj42 1).bind fun t1444 => ((scalar_Mul.f kj42 t1412 t1444).bind fun t1445 => ((scalar_Equal.f kj42 t1445 t1412).bind fun t1446 => (chicorylaw06_ScalarRing.j2 kj42 (!t1446) t1412)))) else (chicorylaw06_ScalarRing.j2 kj42 true t1412))) = some true := H
                  have A133 := Aside0.mk A1330
                  clear A1330
                  replace H := Option.bind_eq_some_iff.mp H
                  obtain ⟨t1443, A1340, H⟩ := H
                  replace H : (if t1443 = true then ((scalar_Int.f kj42 1).bind fun t1444 => ((scalar_Mul.f kj42 t1412 t1444).bind fun t1445 => ((scalar_Equal.f kj42 t1445 t1412).bind fun t1446 => (chicorylaw06_ScalarRing.j2 kj42 (!t1446) t1412)))) else (chicorylaw06_ScalarRing.j2 kj42 true t1412)) = some true := H
                  have A134 := Aside0.mk A1340
                  clear A1340
                  by_cases c135 : t1443 = true
                  · subst c135
                    have H1 : ((scalar_Int.f kj42 1).bind fun t1444 => ((scalar_Mul.f kj42 t1412 t1444).bind fun t1445 => ((scalar_Equal.f kj42 t1445 t1412).bind fun t1446 => (chicorylaw06_ScalarRing.j2 kj42 (!t1446) t1412)))) = some true := by rw [if_pos rfl] at H; exact H
                    clear H; have H := H1; clear H1
                    replace H := Option.bind_eq_some_iff.mp H
                    obtain ⟨t1444, A1360, H⟩ := H
                    replace H : ((scalar_Mul.f kj42 t1412 t1444).bind fun t1445 => ((scalar_Equal.f kj42 t1445 t1412).bind fun t1446 => (chicorylaw06_ScalarRing.j2 kj42 (!t1446) t1412))) = some true := H
                    have A136 := Aside0.mk A1360
                    clear A1360
                    replace H := Option.bind_eq_some_iff.mp H
                    obtain ⟨t1445, A1370, H⟩ := H
                    replace H : ((scalar_Equal.f kj42 t1445 t1412).bind fun t1446 => (chicorylaw06_ScalarRing.j2 kj42 (!t1446) t1412)) = some true := H
                    have A137 := Aside0.mk A1370
                    clear A1370
                    replace H := Option.bind_eq_some_iff.mp H
                    obtain ⟨t1446, A1380, H⟩ := H
                    replace H : (chicorylaw06_ScalarRing.j2 kj42 (!t1446) t1412) = some true := H
                    have A138 := Aside0.mk A1380
                    clear A1380
                    have H' := Aside0.mk H
                    clear H
                    try go_wp2
                    have n0_ := Aside0.mk (blk_drew BK1409.out)
                    have n1_ := Aside0.mk (blk_drew BK1410.out)
                    have n2_ := Aside0.mk (blk_drew BK1411.out)
                    have n3_ := Aside0.mk (blk_drew BK1414.out)
                    have n4_ := Aside0.mk (blk_drew BK1417.out)
                    have n5_ := Aside0.mk (blk_drew BK1420.out)
                    have n6_ := Aside0.mk (blk_drew BK1422.out)
                    have n7_ := Aside0.mk (blk_drew BK1424.out)
                    have n8_ := Aside0.mk (below_drew1 HB.out)
                    clear BK1409; clear BK1410; clear BK1411; clear BK1414; clear BK1417; clear BK1420; clear BK1422; clear BK1424; clear HB; have BK1409 := n0_; have BK1410 := n1_; have BK1411 := n2_; have BK1414 := n3_; have BK1417 := n4_; have BK1420 := n5_; have BK1422 := n6_; have BK1424 := n7_; have HB := n8_; clear n0_ n1_ n2_ n3_ n4_ n5_ n6_ n7_ n8_
                    refine start_ (n := 28) (S := fun w' => c7 w' gb1422 t1421 ∧ c7 w' gb1420 t1418 ∧ c7 w' gb1414 t1412 ∧ c7 w' gb1417 t1415) (ds := []) #[fA, fA, fA, fA, fA, fA, fA, fA, fA, fA, fA, fA, fA, fA, fA, fA, fA, fA, fA, fA, fA, fA, fA, fA, fA, fA, fA, fA] (by kernel_rfl) rfl rfl ⟨c7_of BK1422.out rfl, c7_of BK1420.out rfl, c7_of BK1414.out rfl, c7_of BK1417.out rfl⟩ (fun hHeld => ?_); refine with_tabW chicorylaw06_ScalarRing.tab10 chicorylaw06_ScalarRing.bits10 (fun HT_ HW_ => ?_)
                    generalize wc.drew = w139 at BK1409 BK1410 BK1411 BK1414 BK1417 BK1420 BK1422 BK1424 HB hHeld ⊢
                    refine take_ (i := 0) (N := some 87) (v := ?_) (a' := ?_) #[tR, fA, fA, fA, fA, fA, fA, fA, fA, fA, fA, fA, fA, fA, fA, fA, fA, fA, fA, fA, fA, fA, fA, fA, fA, fA, fA, fA] rfl rfl (take_ofW HT_.out HW_.out (by kernel_rfl)) (fun _ _ _ h => h) (Or.inl ⟨by rfl, ?_⟩) hHeld ?_ ?_
                    rotate_left
                    · rintro w' ⟨⟨s0, s0_c1, s0_c2, s0_c3, s0_c4, s0_c5, s0_c6⟩, ⟨s1, s1_c1, s1_c2, s1_c3, s1_c4, s1_c5, s1_c6⟩, ⟨s2, s2_c1, s2_c2, s2_c3, s2_c4, s2_c5, s2_c6⟩, ⟨s3, s3_c1, s3_c2, s3_c3, s3_c4, s3_c5, s3_c6⟩⟩
                      go_simp
                      with_reducible rfl
                    rotate_left
                    · simp only [Act.put, List.setIfInBounds_toArray, List.set_cons_zero, List.set_cons_succ, i64_w, i32_w]
                      rfl
                    refine take_ (i := 1) (N := some 88) (v := ?_) (a' := ?_) #[tR, tR, fA, fA, fA, fA, fA, fA, fA, fA, fA, fA, fA, fA, fA, fA, fA, fA, fA, fA, fA, fA, fA, fA, fA, fA, fA, fA] rfl rfl (take_ofW HT_.out HW_.out (by kernel_rfl)) (fun _ _ _ h => h) (Or.inl ⟨by rfl, ?_⟩) hHeld ?_ ?_
                    rotate_left
                    · rintro w' ⟨⟨s0, s0_c1, s0_c2, s0_c3, s0_c4, s0_c5, s0_c6⟩, ⟨s1, s1_c1, s1_c2, s1_c3, s1_c4, s1_c5, s1_c6⟩, ⟨s2, s2_c1, s2_c2, s2_c3, s2_c4, s2_c5, s2_c6⟩, ⟨s3, s3_c1, s3_c2, s3_c3, s3_c4, s3_c5, s3_c6⟩⟩
                      go_simp
                      with_reducible rfl
                    rotate_left
                    · simp only [Act.put, List.setIfInBounds_toArray, List.set_cons_zero, List.set_cons_succ, i64_w, i32_w]
                      rfl
                    refine take_ (i := 3) (N := some 90) (v := ?_) (a' := ?_) #[tR, tR, fA, tR, fA, fA, fA, fA, fA, fA, fA, fA, fA, fA, fA, fA, fA, fA, fA, fA, fA, fA, fA, fA, fA, fA, fA, fA] rfl rfl (take_ofW HT_.out HW_.out (by kernel_rfl)) (fun _ _ _ h => h) (Or.inl ⟨by rfl, ?_⟩) hHeld ?_ ?_
                    rotate_left
                    · rintro w' ⟨⟨s0, s0_c1, s0_c2, s0_c3, s0_c4, s0_c5, s0_c6⟩, ⟨s1, s1_c1, s1_c2, s1_c3, s1_c4, s1_c5, s1_c6⟩, ⟨s2, s2_c1, s2_c2, s2_c3, s2_c4, s2_c5, s2_c6⟩, ⟨s3, s3_c1, s3_c2, s3_c3, s3_c4, s3_c5, s3_c6⟩⟩
                      go_simp
                      with_reducible rfl
                    rotate_left
                    · simp only [Act.put, List.setIfInBounds_toArray, List.set_cons_zero, List.set_cons_succ, i64_w, i32_w]
                      rfl
                    refine take_ (i := 4) (N := some 91) (v := ?_) (a' := ?_) #[tR, tR, fA, tR, tR, fA, fA, fA, fA, fA, fA, fA, fA, fA, fA, fA, fA, fA, fA, fA, fA, fA, fA, fA, fA, fA, fA, fA] rfl rfl (take_ofW HT_.out HW_.out (by kernel_rfl)) (fun _ _ _ h => h) (Or.inl ⟨by rfl, ?_⟩) hHeld ?_ ?_
                    rotate_left
                    · rintro w' ⟨⟨s0, s0_c1, s0_c2, s0_c3, s0_c4, s0_c5, s0_c6⟩, ⟨s1, s1_c1, s1_c2, s1_c3, s1_c4, s1_c5, s1_c6⟩, ⟨s2, s2_c1, s2_c2, s2_c3, s2_c4, s2_c5, s2_c6⟩, ⟨s3, s3_c1, s3_c2, s3_c3, s3_c4, s3_c5, s3_c6⟩⟩
                      go_simp
                      with_reducible rfl
                    rotate_left
                    · simp only [Act.put, List.setIfInBounds_toArray, List.set_cons_zero, List.set_cons_succ, i64_w, i32_w]
                      rfl
                    refine take_ (i := 6) (N := some 93) (v := ?_) (a' := ?_) #[tR, tR, fA, tR, tR, fA, tR, fA, fA, fA, fA, fA, fA, fA, fA, fA, fA, fA, fA, fA, fA, fA, fA, fA, fA, fA, fA, fA] rfl rfl (take_ofW HT_.out HW_.out (by kernel_rfl)) (fun _ _ _ h => h) (Or.inl ⟨by rfl, ?_⟩) hHeld ?_ ?_
                    rotate_left
                    · rintro w' ⟨⟨s0, s0_c1, s0_c2, s0_c3, s0_c4, s0_c5, s0_c6⟩, ⟨s1, s1_c1, s1_c2, s1_c3, s1_c4, s1_c5, s1_c6⟩, ⟨s2, s2_c1, s2_c2, s2_c3, s2_c4, s2_c5, s2_c6⟩, ⟨s3, s3_c1, s3_c2, s3_c3, s3_c4, s3_c5, s3_c6⟩⟩
                      go_simp
                      with_reducible rfl
                    rotate_left
                    · simp only [Act.put, List.setIfInBounds_toArray, List.set_cons_zero, List.set_cons_succ, i64_w, i32_w]
                      rfl
                    refine take_ (i := 7) (N := some 94) (v := ?_) (a' := ?_) #[tR, tR, fA, tR, tR, fA, tR, tR, fA, fA, fA, fA, fA, fA, fA, fA, fA, fA, fA, fA, fA, fA, fA, fA, fA, fA, fA, fA] rfl rfl (take_ofW HT_.out HW_.out (by kernel_rfl)) (fun _ _ _ h => h) (Or.inl ⟨by rfl, ?_⟩) hHeld ?_ ?_
                    rotate_left
                    · rintro w' ⟨⟨s0, s0_c1, s0_c2, s0_c3, s0_c4, s0_c5, s0_c6⟩, ⟨s1, s1_c1, s1_c2, s1_c3, s1_c4, s1_c5, s1_c6⟩, ⟨s2, s2_c1, s2_c2, s2_c3, s2_c4, s2_c5, s2_c6⟩, ⟨s3, s3_c1, s3_c2, s3_c3, s3_c4, s3_c5, s3_c6⟩⟩
                      go_simp
                      with_reducible rfl
                    rotate_left
                    · simp only [Act.put, List.setIfInBounds_toArray, List.set_cons_zero, List.set_cons_succ, i64_w, i32_w]
                      rfl
                    refine one_ (i := 2) (N := some 89) #[tR, tR, tR, tR, tR, fA, tR, tR, fA, fA, fA, fA, fA, fA, fA, fA, fA, fA, fA, fA, fA, fA, fA, fA, fA, fA, fA, fA] rfl rfl (one_of HT_.out (by kernel_rfl)) (by decide) (fun K hK => ?_)
                    refine goes_ Try.func72 (by kernel_rfl) rfl #[.agg (sv t1421), .agg (sv t1418)] (by rfl) rfl rfl (by (try simp only [List.map_toArray, List.map_cons, List.map_nil]); first | done | rfl | (simp only [List.length_drop, List.length_take]; rfl)) ?_
                    with_reducible refine (scalar_Mul.calls kj42 t1421 t1418 t1437 _ A127.out).mono ?_
                    rintro e w140 ⟨rfl, hb⟩
                    refine ⟨_, rfl, ?_⟩
                    have n0_ := bkb BK1409 hb; have n1_ := bkb BK1410 hb; have n2_ := bkb BK1411 hb; have n3_ := bkb BK1414 hb; have n4_ := bkb BK1417 hb; have n5_ := bkb BK1420 hb; have n6_ := bkb BK1422 hb; have n7_ := bkb BK1424 hb; have n8_ := bel HB hb; clear BK1409; clear BK1410; clear BK1411; clear BK1414; clear BK1417; clear BK1420; clear BK1422; clear BK1424; clear HB; have BK1409 := n0_; have BK1410 := n1_; have BK1411 := n2_; have BK1414 := n3_; have BK1417 := n4_; have BK1420 := n5_; have BK1422 := n6_; have BK1424 := n7_; have HB := n8_; clear n0_ n1_ n2_ n3_ n4_ n5_ n6_ n7_ n8_; (try clear hb); (try clear hb2); (try clear hk); (try clear hi)
                    refine hK.out _ _ ⟨c7_of BK1422.out rfl, c7_of BK1420.out rfl, c7_of BK1414.out rfl, c7_of BK1417.out rfl⟩ (fun hHeld => ?_)
                    clear hK K
                    refine norm_ (a' := ?_) ?_ ?_
                    rotate_left
                    · show Act.put _ (some 89) _ = _
                      simp only [Act.put, List.setIfInBounds_toArray, List.set_cons_zero, List.set_cons_succ, i64_w, i32_w]
                      rfl
                    refine one_ (i := 5) (N := some 92) #[tR, tR, tR, tR, tR, tR, tR, tR, fA, fA, fA, fA, fA, fA, fA, fA, fA, fA, fA, fA, fA, fA, fA, fA, fA, fA, fA, fA] rfl rfl (one_of HT_.out (by kernel_rfl)) (by decide) (fun K hK => ?_)
                    refine goes_ Try.func72 (by kernel_rfl) rfl #[.agg (sv t1412), .agg (sv t1418)] (by rfl) rfl rfl (by (try simp only [List.map_toArray, List.map_cons, List.map_nil]); first | done | rfl | (simp only [List.length_drop, List.length_take]; rfl)) ?_
                    with_reducible refine (scalar_Mul.calls kj42 t1412 t1418 t1438 _ A128.out).mono ?_
                    rintro e w141 ⟨rfl, hb⟩
                    refine ⟨_, rfl, ?_⟩
                    have n0_ := bkb BK1409 hb; have n1_ := bkb BK1410 hb; have n2_ := bkb BK1411 hb; have n3_ := bkb BK1414 hb; have n4_ := bkb BK1417 hb; have n5_ := bkb BK1420 hb; have n6_ := bkb BK1422 hb; have n7_ := bkb BK1424 hb; have n8_ := bel HB hb; clear BK1409; clear BK1410; clear BK1411; clear BK1414; clear BK1417; clear BK1420; clear BK1422; clear BK1424; clear HB; have BK1409 := n0_; have BK1410 := n1_; have BK1411 := n2_; have BK1414 := n3_; have BK1417 := n4_; have BK1420 := n5_; have BK1422 := n6_; have BK1424 := n7_; have HB := n8_; clear n0_ n1_ n2_ n3_ n4_ n5_ n6_ n7_ n8_; (try clear hb); (try clear hb2); (try clear hk); (try clear hi)
                    refine hK.out _ _ ⟨c7_of BK1422.out rfl, c7_of BK1420.out rfl, c7_of BK1414.out rfl, c7_of BK1417.out rfl⟩ (fun hHeld => ?_)
                    clear hK K
                    refine norm_ (a' := ?_) ?_ ?_
                    rotate_left
                    · show Act.put _ (some 92) _ = _
                      simp only [Act.put, List.setIfInBounds_toArray, List.set_cons_zero, List.set_cons_succ, i64_w, i32_w]
                      rfl
                    refine one_ (i := 8) (N := some 95) #[tR, tR, tR, tR, tR, tR, tR, tR, tR, fA, fA, fA, fA, fA, fA, fA, fA, fA, fA, fA, fA, fA, fA, fA, fA, fA, fA, fA] rfl rfl (one_of HT_.out (by kernel_rfl)) (by decide) (fun K hK => ?_)
                    refine goes_ Try.func72 (by kernel_rfl) rfl #[.agg (sv t1415), .agg (sv t1418)] (by rfl) rfl rfl (by (try simp only [List.map_toArray, List.map_cons, List.map_nil]); first | done | rfl | (simp only [List.length_drop, List.length_take]; rfl)) ?_
                    with_reducible refine (scalar_Mul.calls kj42 t1415 t1418 t1439 _ A129.out).mono ?_
                    rintro e w142 ⟨rfl, hb⟩
                    refine ⟨_, rfl, ?_⟩
                    have n0_ := bkb BK1409 hb; have n1_ := bkb BK1410 hb; have n2_ := bkb BK1411 hb; have n3_ := bkb BK1414 hb; have n4_ := bkb BK1417 hb; have n5_ := bkb BK1420 hb; have n6_ := bkb BK1422 hb; have n7_ := bkb BK1424 hb; have n8_ := bel HB hb; clear BK1409; clear BK1410; clear BK1411; clear BK1414; clear BK1417; clear BK1420; clear BK1422; clear BK1424; clear HB; have BK1409 := n0_; have BK1410 := n1_; have BK1411 := n2_; have BK1414 := n3_; have BK1417 := n4_; have BK1420 := n5_; have BK1422 := n6_; have BK1424 := n7_; have HB := n8_; clear n0_ n1_ n2_ n3_ n4_ n5_ n6_ n7_ n8_; (try clear hb); (try clear hb2); (try clear hk); (try clear hi)
                    refine hK.out _ _ ⟨c7_of BK1422.out rfl, c7_of BK1420.out rfl, c7_of BK1414.out rfl, c7_of BK1417.out rfl⟩ (fun hHeld => ?_)
                    clear hK K
                    refine norm_ (a' := ?_) ?_ ?_
                    rotate_left
                    · show Act.put _ (some 95) _ = _
                      simp only [Act.put, List.setIfInBounds_toArray, List.set_cons_zero, List.set_cons_succ, i64_w, i32_w]
                      rfl
                    refine one_ (i := 9) (N := some 96) #[tR, tR, tR, tR, tR, tR, tR, tR, tR, tR, fA, fA, fA, fA, fA, fA, fA, fA, fA, fA, fA, fA, fA, fA, fA, fA, fA, fA] rfl rfl (one_of HT_.out (by kernel_rfl)) (by decide) (fun K hK => ?_)
                    refine goes_ Try.func64 (by kernel_rfl) rfl #[.agg (sv t1438), .agg (sv t1439)] (by rfl) rfl rfl (by (try simp only [List.map_toArray, List.map_cons, List.map_nil]); first | done | rfl | (simp only [List.length_drop, List.length_take]; rfl)) ?_
                    with_reducible refine (scalar_Add.calls kj42 t1438 t1439 t1440 _ A130.out).mono ?_
                    rintro e w143 ⟨rfl, hb⟩
                    refine ⟨_, rfl, ?_⟩
                    have n0_ := bkb BK1409 hb; have n1_ := bkb BK1410 hb; have n2_ := bkb BK1411 hb; have n3_ := bkb BK1414 hb; have n4_ := bkb BK1417 hb; have n5_ := bkb BK1420 hb; have n6_ := bkb BK1422 hb; have n7_ := bkb BK1424 hb; have n8_ := bel HB hb; clear BK1409; clear BK1410; clear BK1411; clear BK1414; clear BK1417; clear BK1420; clear BK1422; clear BK1424; clear HB; have BK1409 := n0_; have BK1410 := n1_; have BK1411 := n2_; have BK1414 := n3_; have BK1417 := n4_; have BK1420 := n5_; have BK1422 := n6_; have BK1424 := n7_; have HB := n8_; clear n0_ n1_ n2_ n3_ n4_ n5_ n6_ n7_ n8_; (try clear hb); (try clear hb2); (try clear hk); (try clear hi)
                    refine hK.out _ _ ⟨c7_of BK1422.out rfl, c7_of BK1420.out rfl, c7_of BK1414.out rfl, c7_of BK1417.out rfl⟩ (fun hHeld => ?_)
                    clear hK K
                    refine norm_ (a' := ?_) ?_ ?_
                    rotate_left
                    · show Act.put _ (some 96) _ = _
                      simp only [Act.put, List.setIfInBounds_toArray, List.set_cons_zero, List.set_cons_succ, i64_w, i32_w]
                      rfl
                    refine one_ (i := 10) (N := some 97) #[tR, tR, tR, tR, tR, tR, tR, tR, tR, tR, tR, fA, fA, fA, fA, fA, fA, fA, fA, fA, fA, fA, fA, fA, fA, fA, fA, fA] rfl rfl (one_of HT_.out (by kernel_rfl)) (by decide) (fun K hK => ?_)
                    refine goes_ Try.func76 (by kernel_rfl) rfl #[.agg (sv t1437), .agg (sv t1440)] (by rfl) rfl rfl (by (try simp only [List.map_toArray, List.map_cons, List.map_nil]); first | done | rfl | (simp only [List.length_drop, List.length_take]; rfl)) ?_
                    with_reducible refine (scalar_Equal.calls kj42 t1437 t1440 true _ A131.out).mono ?_
                    rintro e w144 ⟨rfl, hb⟩
                    refine ⟨_, rfl, ?_⟩
                    have n0_ := bkb BK1409 hb; have n1_ := bkb BK1410 hb; have n2_ := bkb BK1411 hb; have n3_ := bkb BK1414 hb; have n4_ := bkb BK1417 hb; have n5_ := bkb BK1420 hb; have n6_ := bkb BK1422 hb; have n7_ := bkb BK1424 hb; have n8_ := bel HB hb; clear BK1409; clear BK1410; clear BK1411; clear BK1414; clear BK1417; clear BK1420; clear BK1422; clear BK1424; clear HB; have BK1409 := n0_; have BK1410 := n1_; have BK1411 := n2_; have BK1414 := n3_; have BK1417 := n4_; have BK1420 := n5_; have BK1422 := n6_; have BK1424 := n7_; have HB := n8_; clear n0_ n1_ n2_ n3_ n4_ n5_ n6_ n7_ n8_; (try clear hb); (try clear hb2); (try clear hk); (try clear hi)
                    refine hK.out _ _ ⟨c7_of BK1422.out rfl, c7_of BK1420.out rfl, c7_of BK1414.out rfl, c7_of BK1417.out rfl⟩ (fun hHeld => ?_)
                    clear hK K
                    refine norm_ (a' := ?_) ?_ ?_
                    rotate_left
                    · show Act.put _ (some 97) _ = _
                      simp only [Act.put, List.setIfInBounds_toArray, List.set_cons_zero, List.set_cons_succ, i64_w, i32_w]
                      rfl
                    refine pure_ (i := 11) (N := some 98) (v := ?_) (a' := ?_) #[tR, tR, tR, tR, tR, tR, tR, tR, tR, tR, tR, tR, fA, fA, fA, fA, fA, fA, fA, fA, fA, fA, fA, fA, fA, fA, fA, fA] rfl rfl (any_of HT_.out (by kernel_rfl)) (fun _ _ _ h => h) (Or.inl ⟨by rfl, ?_⟩) ?_ ?_
                    rotate_left
                    · intro w'
                      go_simp
                      with_reducible rfl
                    rotate_left
                    · simp only [Act.put, List.setIfInBounds_toArray, List.set_cons_zero, List.set_cons_succ, i64_w, i32_w]
                      rfl
                    refine pure_ (i := 12) (N := some 99) (v := ?_) (a' := ?_) #[tR, tR, tR, tR, tR, tR, tR, tR, tR, tR, tR, tR, tR, fA, fA, fA, fA, fA, fA, fA, fA, fA, fA, fA, fA, fA, fA, fA] rfl rfl (any_of HT_.out (by kernel_rfl)) (fun _ _ _ h => h) (Or.inl ⟨by rfl, ?_⟩) ?_ ?_
                    rotate_left
                    · intro w'
                      go_simp
                      with_reducible rfl
                    rotate_left
                    · simp only [Act.put, List.setIfInBounds_toArray, List.set_cons_zero, List.set_cons_succ, i64_w, i32_w]
                      rfl
                    refine take_ (i := 13) (N := some 100) (v := ?_) (a' := ?_) #[tR, tR, tR, tR, tR, tR, tR, tR, tR, tR, tR, tR, tR, tR, fA, fA, fA, fA, fA, fA, fA, fA, fA, fA, fA, fA, fA, fA] rfl rfl (take_ofW HT_.out HW_.out (by kernel_rfl)) (fun _ _ _ h => h) (Or.inl ⟨by rfl, ?_⟩) hHeld ?_ ?_
                    rotate_left
                    · rintro w' ⟨⟨s0, s0_c1, s0_c2, s0_c3, s0_c4, s0_c5, s0_c6⟩, ⟨s1, s1_c1, s1_c2, s1_c3, s1_c4, s1_c5, s1_c6⟩, ⟨s2, s2_c1, s2_c2, s2_c3, s2_c4, s2_c5, s2_c6⟩, ⟨s3, s3_c1, s3_c2, s3_c3, s3_c4, s3_c5, s3_c6⟩⟩
                      go_simp
                      with_reducible rfl
                    rotate_left
                    · simp only [Act.put, List.setIfInBounds_toArray, List.set_cons_zero, List.set_cons_succ, i64_w, i32_w]
                      rfl
                    refine take_ (i := 14) (N := some 101) (v := ?_) (a' := ?_) #[tR, tR, tR, tR, tR, tR, tR, tR, tR, tR, tR, tR, tR, tR, tR, fA, fA, fA, fA, fA, fA, fA, fA, fA, fA, fA, fA, fA] rfl rfl (take_ofW HT_.out HW_.out (by kernel_rfl)) (fun _ _ _ h => h) (Or.inl ⟨by rfl, ?_⟩) hHeld ?_ ?_
                    rotate_left
                    · rintro w' ⟨⟨s0, s0_c1, s0_c2, s0_c3, s0_c4, s0_c5, s0_c6⟩, ⟨s1, s1_c1, s1_c2, s1_c3, s1_c4, s1_c5, s1_c6⟩, ⟨s2, s2_c1, s2_c2, s2_c3, s2_c4, s2_c5, s2_c6⟩, ⟨s3, s3_c1, s3_c2, s3_c3, s3_c4, s3_c5, s3_c6⟩⟩
                      go_simp
                      with_reducible rfl
                    rotate_left
                    · simp only [Act.put, List.setIfInBounds_toArray, List.set_cons_zero, List.set_cons_succ, i64_w, i32_w]
                      rfl
                    refine take_ (i := 16) (N := some 103) (v := ?_) (a' := ?_) #[tR, tR, tR, tR, tR, tR, tR, tR, tR, tR, tR, tR, tR, tR, tR, fA, tR, fA, fA, fA, fA, fA, fA, fA, fA, fA, fA, fA] rfl rfl (take_ofW HT_.out HW_.out (by kernel_rfl)) (fun _ _ _ h => h) (Or.inl ⟨by rfl, ?_⟩) hHeld ?_ ?_
                    rotate_left
                    · rintro w' ⟨⟨s0, s0_c1, s0_c2, s0_c3, s0_c4, s0_c5, s0_c6⟩, ⟨s1, s1_c1, s1_c2, s1_c3, s1_c4, s1_c5, s1_c6⟩, ⟨s2, s2_c1, s2_c2, s2_c3, s2_c4, s2_c5, s2_c6⟩, ⟨s3, s3_c1, s3_c2, s3_c3, s3_c4, s3_c5, s3_c6⟩⟩
                      go_simp
                      with_reducible rfl
                    rotate_left
                    · simp only [Act.put, List.setIfInBounds_toArray, List.set_cons_zero, List.set_cons_succ, i64_w, i32_w]
                      rfl
                    refine one_ (i := 15) (N := some 102) #[tR, tR, tR, tR, tR, tR, tR, tR, tR, tR, tR, tR, tR, tR, tR, tR, tR, fA, fA, fA, fA, fA, fA, fA, fA, fA, fA, fA] rfl rfl (one_of HT_.out (by kernel_rfl)) (by decide) (fun K hK => ?_)
                    refine goes_ Try.func66 (by kernel_rfl) rfl #[.agg (sv t1421), .agg (sv t1415)] (by rfl) rfl rfl (by (try simp only [List.map_toArray, List.map_cons, List.map_nil]); first | done | rfl | (simp only [List.length_drop, List.length_take]; rfl)) ?_
                    with_reducible refine (scalar_Sub.calls kj42 t1421 t1415 t1442 _ A133.out).mono ?_
                    rintro e w145 ⟨rfl, hb⟩
                    refine ⟨_, rfl, ?_⟩
                    have n0_ := bkb BK1409 hb; have n1_ := bkb BK1410 hb; have n2_ := bkb BK1411 hb; have n3_ := bkb BK1414 hb; have n4_ := bkb BK1417 hb; have n5_ := bkb BK1420 hb; have n6_ := bkb BK1422 hb; have n7_ := bkb BK1424 hb; have n8_ := bel HB hb; clear BK1409; clear BK1410; clear BK1411; clear BK1414; clear BK1417; clear BK1420; clear BK1422; clear BK1424; clear HB; have BK1409 := n0_; have BK1410 := n1_; have BK1411 := n2_; have BK1414 := n3_; have BK1417 := n4_; have BK1420 := n5_; have BK1422 := n6_; have BK1424 := n7_; have HB := n8_; clear n0_ n1_ n2_ n3_ n4_ n5_ n6_ n7_ n8_; (try clear hb); (try clear hb2); (try clear hk); (try clear hi)
                    refine hK.out _ _ ⟨c7_of BK1422.out rfl, c7_of BK1420.out rfl, c7_of BK1414.out rfl, c7_of BK1417.out rfl⟩ (fun hHeld => ?_)
                    clear hK K
                    refine norm_ (a' := ?_) ?_ ?_
                    rotate_left
                    · show Act.put _ (some 102) _ = _
                      simp only [Act.put, List.setIfInBounds_toArray, List.set_cons_zero, List.set_cons_succ, i64_w, i32_w]
                      rfl
                    refine one_ (i := 17) (N := some 104) #[tR, tR, tR, tR, tR, tR, tR, tR, tR, tR, tR, tR, tR, tR, tR, tR, tR, tR, fA, fA, fA, fA, fA, fA, fA, fA, fA, fA] rfl rfl (one_of HT_.out (by kernel_rfl)) (by decide) (fun K hK => ?_)
                    refine goes_ Try.func76 (by kernel_rfl) rfl #[.agg (sv t1442), .agg (sv t1412)] (by rfl) rfl rfl (by (try simp only [List.map_toArray, List.map_cons, List.map_nil]); first | done | rfl | (simp only [List.length_drop, List.length_take]; rfl)) ?_
                    with_reducible refine (scalar_Equal.calls kj42 t1442 t1412 true _ A134.out).mono ?_
                    rintro e w146 ⟨rfl, hb⟩
                    refine ⟨_, rfl, ?_⟩
                    have n0_ := bkb BK1409 hb; have n1_ := bkb BK1410 hb; have n2_ := bkb BK1411 hb; have n3_ := bkb BK1414 hb; have n4_ := bkb BK1417 hb; have n5_ := bkb BK1420 hb; have n6_ := bkb BK1422 hb; have n7_ := bkb BK1424 hb; have n8_ := bel HB hb; clear BK1409; clear BK1410; clear BK1411; clear BK1414; clear BK1417; clear BK1420; clear BK1422; clear BK1424; clear HB; have BK1409 := n0_; have BK1410 := n1_; have BK1411 := n2_; have BK1414 := n3_; have BK1417 := n4_; have BK1420 := n5_; have BK1422 := n6_; have BK1424 := n7_; have HB := n8_; clear n0_ n1_ n2_ n3_ n4_ n5_ n6_ n7_ n8_; (try clear hb); (try clear hb2); (try clear hk); (try clear hi)
                    refine hK.out _ _ ⟨c7_of BK1422.out rfl, c7_of BK1420.out rfl, c7_of BK1414.out rfl, c7_of BK1417.out rfl⟩ (fun hHeld => ?_)
                    clear hK K
                    refine norm_ (a' := ?_) ?_ ?_
                    rotate_left
                    · show Act.put _ (some 104) _ = _
                      simp only [Act.put, List.setIfInBounds_toArray, List.set_cons_zero, List.set_cons_succ, i64_w, i32_w]
                      rfl
                    refine pure_ (i := 18) (N := some 105) (v := ?_) (a' := ?_) #[tR, tR, tR, tR, tR, tR, tR, tR, tR, tR, tR, tR, tR, tR, tR, tR, tR, tR, tR, fA, fA, fA, fA, fA, fA, fA, fA, fA] rfl rfl (any_of HT_.out (by kernel_rfl)) (fun _ _ _ h => h) (Or.inl ⟨by rfl, ?_⟩) ?_ ?_
                    rotate_left
                    · intro w'
                      go_simp
                      with_reducible rfl
                    rotate_left
                    · simp only [Act.put, List.setIfInBounds_toArray, List.set_cons_zero, List.set_cons_succ, i64_w, i32_w]
                      rfl
                    refine pure_ (i := 19) (N := some 106) (v := ?_) (a' := ?_) #[tR, tR, tR, tR, tR, tR, tR, tR, tR, tR, tR, tR, tR, tR, tR, tR, tR, tR, tR, tR, fA, fA, fA, fA, fA, fA, fA, fA] rfl rfl (any_of HT_.out (by kernel_rfl)) (fun _ _ _ h => h) (Or.inl ⟨by rfl, ?_⟩) ?_ ?_
                    rotate_left
                    · intro w'
                      go_simp
                      with_reducible rfl
                    rotate_left
                    · simp only [Act.put, List.setIfInBounds_toArray, List.set_cons_zero, List.set_cons_succ, i64_w, i32_w]
                      rfl
                    refine pure_ (i := 20) (N := some 107) (v := ?_) (a' := ?_) #[tR, tR, tR, tR, tR, tR, tR, tR, tR, tR, tR, tR, tR, tR, tR, tR, tR, tR, tR, tR, tR, fA, fA, fA, fA, fA, fA, fA] rfl rfl (any_of HT_.out (by kernel_rfl)) (fun _ _ _ h => h) (Or.inl ⟨by rfl, ?_⟩) ?_ ?_
                    rotate_left
                    · intro w'
                      go_simp
                      with_reducible rfl
                    rotate_left
                    · simp only [Act.put, List.setIfInBounds_toArray, List.set_cons_zero, List.set_cons_succ, i64_w, i32_w]
                      rfl
                    refine take_ (i := 21) (N := some 108) (v := ?_) (a' := ?_) #[tR, tR, tR, tR, tR, tR, tR, tR, tR, tR, tR, tR, tR, tR, tR, tR, tR, tR, tR, tR, tR, tR, fA, fA, fA, fA, fA, fA] rfl rfl (take_ofW HT_.out HW_.out (by kernel_rfl)) (fun _ _ _ h => h) (Or.inl ⟨by rfl, ?_⟩) hHeld ?_ ?_
                    rotate_left
                    · rintro w' ⟨⟨s0, s0_c1, s0_c2, s0_c3, s0_c4, s0_c5, s0_c6⟩, ⟨s1, s1_c1, s1_c2, s1_c3, s1_c4, s1_c5, s1_c6⟩, ⟨s2, s2_c1, s2_c2, s2_c3, s2_c4, s2_c5, s2_c6⟩, ⟨s3, s3_c1, s3_c2, s3_c3, s3_c4, s3_c5, s3_c6⟩⟩
                      go_simp
                      with_reducible rfl
                    rotate_left
                    · simp only [Act.put, List.setIfInBounds_toArray, List.set_cons_zero, List.set_cons_succ, i64_w, i32_w]
                      rfl
                    refine take_ (i := 24) (N := some 111) (v := ?_) (a' := ?_) #[tR, tR, tR, tR, tR, tR, tR, tR, tR, tR, tR, tR, tR, tR, tR, tR, tR, tR, tR, tR, tR, tR, fA, fA, tR, fA, fA, fA] rfl rfl (take_ofW HT_.out HW_.out (by kernel_rfl)) (fun _ _ _ h => h) (Or.inl ⟨by rfl, ?_⟩) hHeld ?_ ?_
                    rotate_left
                    · rintro w' ⟨⟨s0, s0_c1, s0_c2, s0_c3, s0_c4, s0_c5, s0_c6⟩, ⟨s1, s1_c1, s1_c2, s1_c3, s1_c4, s1_c5, s1_c6⟩, ⟨s2, s2_c1, s2_c2, s2_c3, s2_c4, s2_c5, s2_c6⟩, ⟨s3, s3_c1, s3_c2, s3_c3, s3_c4, s3_c5, s3_c6⟩⟩
                      go_simp
                      with_reducible rfl
                    rotate_left
                    · simp only [Act.put, List.setIfInBounds_toArray, List.set_cons_zero, List.set_cons_succ, i64_w, i32_w]
                      rfl
                    refine one_ (i := 22) (N := some 109) #[tR, tR, tR, tR, tR, tR, tR, tR, tR, tR, tR, tR, tR, tR, tR, tR, tR, tR, tR, tR, tR, tR, tR, fA, tR, fA, fA, fA] rfl rfl (one_of HT_.out (by kernel_rfl)) (by decide) (fun K hK => ?_)
                    refine goes_ Try.func69 (by kernel_rfl) rfl #[.int .i64 1] (by rfl) rfl rfl (by (try simp only [List.map_toArray, List.map_cons, List.map_nil]); first | done | rfl | (simp only [List.length_drop, List.length_take]; rfl)) ?_
                    with_reducible refine (scalar_Int.calls kj42 1 t1444 _ A136.out).mono ?_
                    rintro e w147 ⟨rfl, hb⟩
                    refine ⟨_, rfl, ?_⟩
                    have n0_ := bkb BK1409 hb; have n1_ := bkb BK1410 hb; have n2_ := bkb BK1411 hb; have n3_ := bkb BK1414 hb; have n4_ := bkb BK1417 hb; have n5_ := bkb BK1420 hb; have n6_ := bkb BK1422 hb; have n7_ := bkb BK1424 hb; have n8_ := bel HB hb; clear BK1409; clear BK1410; clear BK1411; clear BK1414; clear BK1417; clear BK1420; clear BK1422; clear BK1424; clear HB; have BK1409 := n0_; have BK1410 := n1_; have BK1411 := n2_; have BK1414 := n3_; have BK1417 := n4_; have BK1420 := n5_; have BK1422 := n6_; have BK1424 := n7_; have HB := n8_; clear n0_ n1_ n2_ n3_ n4_ n5_ n6_ n7_ n8_; (try clear hb); (try clear hb2); (try clear hk); (try clear hi)
                    refine hK.out _ _ ⟨c7_of BK1422.out rfl, c7_of BK1420.out rfl, c7_of BK1414.out rfl, c7_of BK1417.out rfl⟩ (fun hHeld => ?_)
                    clear hK K
                    refine norm_ (a' := ?_) ?_ ?_
                    rotate_left
                    · show Act.put _ (some 109) _ = _
                      simp only [Act.put, List.setIfInBounds_toArray, List.set_cons_zero, List.set_cons_succ, i64_w, i32_w]
                      rfl
                    refine one_ (i := 23) (N := some 110) #[tR, tR, tR, tR, tR, tR, tR, tR, tR, tR, tR, tR, tR, tR, tR, tR, tR, tR, tR, tR, tR, tR, tR, tR, tR, fA, fA, fA] rfl rfl (one_of HT_.out (by kernel_rfl)) (by decide) (fun K hK => ?_)
                    refine goes_ Try.func72 (by kernel_rfl) rfl #[.agg (sv t1412), .agg (sv t1444)] (by rfl) rfl rfl (by (try simp only [List.map_toArray, List.map_cons, List.map_nil]); first | done | rfl | (simp only [List.length_drop, List.length_take]; rfl)) ?_
                    with_reducible refine (scalar_Mul.calls kj42 t1412 t1444 t1445 _ A137.out).mono ?_
                    rintro e w148 ⟨rfl, hb⟩
                    refine ⟨_, rfl, ?_⟩
                    have n0_ := bkb BK1409 hb; have n1_ := bkb BK1410 hb; have n2_ := bkb BK1411 hb; have n3_ := bkb BK1414 hb; have n4_ := bkb BK1417 hb; have n5_ := bkb BK1420 hb; have n6_ := bkb BK1422 hb; have n7_ := bkb BK1424 hb; have n8_ := bel HB hb; clear BK1409; clear BK1410; clear BK1411; clear BK1414; clear BK1417; clear BK1420; clear BK1422; clear BK1424; clear HB; have BK1409 := n0_; have BK1410 := n1_; have BK1411 := n2_; have BK1414 := n3_; have BK1417 := n4_; have BK1420 := n5_; have BK1422 := n6_; have BK1424 := n7_; have HB := n8_; clear n0_ n1_ n2_ n3_ n4_ n5_ n6_ n7_ n8_; (try clear hb); (try clear hb2); (try clear hk); (try clear hi)
                    refine hK.out _ _ ⟨c7_of BK1422.out rfl, c7_of BK1420.out rfl, c7_of BK1414.out rfl, c7_of BK1417.out rfl⟩ (fun hHeld => ?_)
                    clear hK K
                    refine norm_ (a' := ?_) ?_ ?_
                    rotate_left
                    · show Act.put _ (some 110) _ = _
                      simp only [Act.put, List.setIfInBounds_toArray, List.set_cons_zero, List.set_cons_succ, i64_w, i32_w]
                      rfl
                    refine one_ (i := 25) (N := some 112) #[tR, tR, tR, tR, tR, tR, tR, tR, tR, tR, tR, tR, tR, tR, tR, tR, tR, tR, tR, tR, tR, tR, tR, tR, tR, tR, fA, fA] rfl rfl (one_of HT_.out (by kernel_rfl)) (by decide) (fun K hK => ?_)
                    refine goes_ Try.func76 (by kernel_rfl) rfl #[.agg (sv t1445), .agg (sv t1412)] (by rfl) rfl rfl (by (try simp only [List.map_toArray, List.map_cons, List.map_nil]); first | done | rfl | (simp only [List.length_drop, List.length_take]; rfl)) ?_
                    with_reducible refine (scalar_Equal.calls kj42 t1445 t1412 t1446 _ A138.out).mono ?_
                    rintro e w149 ⟨rfl, hb⟩
                    refine ⟨_, rfl, ?_⟩
                    have n0_ := bkb BK1409 hb; have n1_ := bkb BK1410 hb; have n2_ := bkb BK1411 hb; have n3_ := bkb BK1414 hb; have n4_ := bkb BK1417 hb; have n5_ := bkb BK1420 hb; have n6_ := bkb BK1422 hb; have n7_ := bkb BK1424 hb; have n8_ := bel HB hb; clear BK1409; clear BK1410; clear BK1411; clear BK1414; clear BK1417; clear BK1420; clear BK1422; clear BK1424; clear HB; have BK1409 := n0_; have BK1410 := n1_; have BK1411 := n2_; have BK1414 := n3_; have BK1417 := n4_; have BK1420 := n5_; have BK1422 := n6_; have BK1424 := n7_; have HB := n8_; clear n0_ n1_ n2_ n3_ n4_ n5_ n6_ n7_ n8_; (try clear hb); (try clear hb2); (try clear hk); (try clear hi)
                    refine hK.out _ _ ⟨c7_of BK1422.out rfl, c7_of BK1420.out rfl, c7_of BK1414.out rfl, c7_of BK1417.out rfl⟩ (fun hHeld => ?_)
                    clear hK K
                    refine norm_ (a' := ?_) ?_ ?_
                    rotate_left
                    · show Act.put _ (some 112) _ = _
                      simp only [Act.put, List.setIfInBounds_toArray, List.set_cons_zero, List.set_cons_succ, i64_w, i32_w]
                      rfl
                    refine pure_ (i := 26) (N := some 113) (v := ?_) (a' := ?_) #[tR, tR, tR, tR, tR, tR, tR, tR, tR, tR, tR, tR, tR, tR, tR, tR, tR, tR, tR, tR, tR, tR, tR, tR, tR, tR, tR, fA] rfl rfl (any_of HT_.out (by kernel_rfl)) (fun _ _ _ h => h) (Or.inl ⟨by rfl, ?_⟩) ?_ ?_
                    rotate_left
                    · intro w'
                      go_simp
                      with_reducible rfl
                    rotate_left
                    · simp only [Act.put, List.setIfInBounds_toArray, List.set_cons_zero, List.set_cons_succ, i64_w, i32_w]
                      rfl
                    refine pure_ (i := 27) (N := some 114) (v := ?_) (a' := ?_) #[tR, tR, tR, tR, tR, tR, tR, tR, tR, tR, tR, tR, tR, tR, tR, tR, tR, tR, tR, tR, tR, tR, tR, tR, tR, tR, tR, tR] rfl rfl (any_of HT_.out (by kernel_rfl)) (fun _ _ _ h => h) (Or.inl ⟨by rfl, ?_⟩) ?_ ?_
                    rotate_left
                    · intro w'
                      go_simp
                      with_reducible rfl
                    rotate_left
                    · simp only [Act.put, List.setIfInBounds_toArray, List.set_cons_zero, List.set_cons_succ, i64_w, i32_w]
                      rfl
                    refine done_ (done_of HT_.out (by kernel_rfl)) ?_
                    try go_wp2
                    go_meet
                    case rel => exact ⟨_, (!t1446), (by first | rfl | (simp; done) | (simp [*]; done)), H', ⟨by have := HJ6.out; have := HJ42.out; first | omega | exact Nat.le_refl _⟩, ⟨by (with_reducible repeat (first | refine blk_drewN ?_ _ | refine blk_drew ?_ | refine blk_alloc ?_ _)); exact BK1409.out⟩, ⟨by (with_reducible repeat (first | refine blk_drewN ?_ _ | refine blk_drew ?_ | refine blk_alloc ?_ _)); exact BK1410.out⟩, ⟨by (with_reducible repeat (first | refine blk_drewN ?_ _ | refine blk_drew ?_ | refine blk_alloc ?_ _)); exact BK1411.out⟩, ⟨by (with_reducible repeat (first | refine blk_drewN ?_ _ | refine blk_drew ?_ | refine blk_alloc ?_ _)); exact BK1414.out⟩, ⟨by (with_reducible repeat (first | refine blk_drewN ?_ _ | refine blk_drew ?_ | refine blk_alloc ?_ _)); exact BK1417.out⟩, ⟨by (with_reducible repeat (first | refine blk_drewN ?_ _ | refine blk_drew ?_ | refine blk_alloc ?_ _)); exact BK1420.out⟩, ⟨by (with_reducible repeat (first | refine blk_drewN ?_ _ | refine blk_drew ?_ | refine blk_alloc ?_ _)); exact BK1422.out⟩, ⟨by (with_reducible repeat (first | refine blk_drewN ?_ _ | refine blk_drew ?_ | refine blk_alloc ?_ _)); exact BK1424.out⟩, ⟨by repeat (first | (with_reducible first | exact HB.out | apply below_alloc | apply pw_below_drewN | apply below_drew1 | refine below_set ?_ GE1409.out | refine below_set ?_ GE1410.out | refine below_set ?_ GE1411.out | refine below_set ?_ GE1414.out | refine below_set ?_ GE1417.out | refine below_set ?_ GE1420.out | refine below_set ?_ GE1422.out | refine below_set ?_ GE1424.out) | exact HB.out)⟩⟩
                  · replace c135 := Bool.eq_false_iff.mpr c135
                    subst c135
                    have H1 : (chicorylaw06_ScalarRing.j2 kj42 true t1412) = some true := by rw [if_neg (show ¬ (false = true) by decide)] at H; exact H
                    exact absurd H1 (by intro h_; revert h_; cases kj42 <;> simp [chicorylaw06_ScalarRing.j2])
                · replace c132 := Bool.eq_false_iff.mpr c132
                  subst c132
                  have H1 : (chicorylaw06_ScalarRing.j2 kj42 true t1412) = some true := by rw [if_neg (show ¬ (false = true) by decide)] at H; exact H
                  exact absurd H1 (by intro h_; revert h_; cases kj42 <;> simp [chicorylaw06_ScalarRing.j2])
              case rest =>
                clear HC126
                try clear c1
                try clear p2
                try clear c6
                try clear c7
                try clear c13
                try clear c64
                try clear c66
                try clear c72
                try clear c76
                try clear c132
                obtain ⟨kq, x114_125, rfl, HA, HJ125, BK1409, BK1410, BK1411, BK1414, BK1417, BK1420, BK1422, BK1424, HB⟩ := hcut
                cases kq with
                | zero => exact absurd HA.out (by simp [chicorylaw06_ScalarRing.j2])
                | succ kj125 =>
                  have H := HA.out
                  clear HA
                  simp only [chicorylaw06_ScalarRing.j2] at H
                  by_cases c164 : x114_125 = true
                  · subst c164
                    have H1 : (some false) = some true := by rw [if_pos rfl] at H; exact H
                    clear H; have H := H1; clear H1
                    exact absurd H (by simp)
                  · replace c164 := Bool.eq_false_iff.mpr c164
                    subst c164
                    have H1 : ((scalar_Half.f kj125 t1412).bind fun t1447 => ((scalar_Inverse.f kj125 t1412).bind fun t1449 => ((scalar_Mul.f kj125 t1412 t1449).bind fun t1451 => ((scalar_Int.f kj125 1).bind fun t1452 => ((scalar_Equal.f kj125 t1451 t1452).bind fun t1453 => ((scalar_Add.f kj125 t1447 t1447).bind fun t1454 => ((scalar_Equal.f kj125 t1454 t1412).bind fun t1455 => (if t1455 = true then ((scalar_Zero.f kj125 t1412).bind fun t1456 => (if (t1453 != t1456) = true then (if t1453 = true then ((chicorylaw06_awake.f kj125).bind fun t1457 => (some t1457)) else ((scalar_Zero.f kj125 t1449).bind fun t1458 => (if t1458 = true then ((chicorylaw06_awake.f kj125).bind fun t1459 => (some t1459)) else (some false)))) else (some false))) else (some false))))))))) = some true := by rw [if_neg (show ¬ (false = true) by decide)] at H; exact H
                    clear H; have H := H1; clear H1
                    replace H := Option.bind_eq_some_iff.mp H
                    obtain ⟨t1447, A1650, H⟩ := H
                    replace H : ((scalar_Inverse.f kj125 t1412).bind fun t1449 => ((scalar_Mul.f kj125 t1412 t1449).bind fun t1451 => ((scalar_Int.f kj125 1).bind fun t1452 => ((scalar_Equal.f kj125 t1451 t1452).bind fun t1453 => ((scalar_Add.f kj125 t1447 t1447).bind fun t1454 => ((scalar_Equal.f kj125 t1454 t1412).bind fun t1455 => (if t1455 = true then ((scalar_Zero.f kj125 t1412).bind fun t1456 => (if (t1453 != t1456) = true then (if t1453 = true then ((chicorylaw06_awake.f kj125).bind fun t1457 => (some t1457)) else ((scalar_Zero.f kj125 t1449).bind fun t1458 => (if t1458 = true then ((chicorylaw06_awake.f kj125).bind fun t1459 => (some t1459)) else (some false)))) else (some false))) else (some false)))))))) = some true := H
                    have A165 := Aside0.mk A1650
                    clear A1650
                    replace H := Option.bind_eq_some_iff.mp H
                    obtain ⟨t1449, A1660, H⟩ := H
                    replace H : ((scalar_Mul.f kj125 t1412 t1449).bind fun t1451 => ((scalar_Int.f kj125 1).bind fun t1452 => ((scalar_Equal.f kj125 t1451 t1452).bind fun t1453 => ((scalar_Add.f kj125 t1447 t1447).bind fun t1454 => ((scalar_Equal.f kj125 t1454 t1412).bind fun t1455 => (if t1455 = true then ((scalar_Zero.f kj125 t1412).bind fun t1456 => (if (t1453 != t1456) = true then (if t1453 = true then ((chicorylaw06_awake.f kj125).bind fun t1457 => (some t1457)) else ((scalar_Zero.f kj125 t1449).bind fun t1458 => (if t1458 = true then ((chicorylaw06_awake.f kj125).bind fun t1459 => (some t1459)) else (some false)))) else (some false))) else (some false))))))) = some true := H
                    have A166 := Aside0.mk A1660
                    clear A1660
                    replace H := Option.bind_eq_some_iff.mp H
                    obtain ⟨t1451, A1670, H⟩ := H
                    replace H : ((scalar_Int.f kj125 1).bind fun t1452 => ((scalar_Equal.f kj125 t1451 t1452).bind fun t1453 => ((scalar_Add.f kj125 t1447 t1447).bind fun t1454 => ((scalar_Equal.f kj125 t1454 t1412).bind fun t1455 => (if t1455 = true then ((scalar_Zero.f kj125 t1412).bind fun t1456 => (if (t1453 != t1456) = true then (if t1453 = true then ((chicorylaw06_awake.f kj125).bind fun t1457 => (some t1457)) else ((scalar_Zero.f kj125 t1449).bind fun t1458 => (if t1458 = true then ((chicorylaw06_awake.f kj125).bind fun t1459 => (some t1459)) else (some false)))) else (some false))) else (some false)))))) = some true := H
                    have A167 := Aside0.mk A1670
                    clear A1670
                    replace H := Option.bind_eq_some_iff.mp H
                    obtain ⟨t1452, A1680, H⟩ := H
                    replace H : ((scalar_Equal.f kj125 t1451 t1452).bind fun t1453 => ((scalar_Add.f kj125 t1447 t1447).bind fun t1454 => ((scalar_Equal.f kj125 t1454 t1412).bind fun t1455 => (if t1455 = true then ((scalar_Zero.f kj125 t1412).bind fun t1456 => (if (t1453 != t1456) = true then (if t1453 = true then ((chicorylaw06_awake.f kj125).bind fun t1457 => (some t1457)) else ((scalar_Zero.f kj125 t1449).bind fun t1458 => (if t1458 = true then ((chicorylaw06_awake.f kj125).bind fun t1459 => (some t1459)) else (some false)))) else (some false))) else (some false))))) = some true := H
                    have A168 := Aside0.mk A1680
                    clear A1680
                    replace H := Option.bind_eq_some_iff.mp H
                    obtain ⟨t1453, A1690, H⟩ := H
                    replace H : ((scalar_Add.f kj125 t1447 t1447).bind fun t1454 => ((scalar_Equal.f kj125 t1454 t1412).bind fun t1455 => (if t1455 = true then ((scalar_Zero.f kj125 t1412).bind fun t1456 => (if (t1453 != t1456) = true then (if t1453 = true then ((chicorylaw06_awake.f kj125).bind fun t1457 => (some t1457)) else ((scalar_Zero.f kj125 t1449).bind fun t1458 => (if t1458 = true then ((chicorylaw06_awake.f kj125).bind fun t1459 => (some t1459)) else (some false)))) else (some false))) else (some false)))) = some true := H
                    have A169 := Aside0.mk A1690
                    clear A1690
                    replace H := Option.bind_eq_some_iff.mp H
                    obtain ⟨t1454, A1700, H⟩ := H
                    replace H : ((scalar_Equal.f kj125 t1454 t1412).bind fun t1455 => (if t1455 = true then ((scalar_Zero.f kj125 t1412).bind fun t1456 => (if (t1453 != t1456) = true then (if t1453 = true then ((chicorylaw06_awake.f kj125).bind fun t1457 => (some t1457)) else ((scalar_Zero.f kj125 t1449).bind fun t1458 => (if t1458 = true then ((chicorylaw06_awake.f kj125).bind fun t1459 => (some t1459)) else (some false)))) else (some false))) else (some false))) = some true := H
                    have A170 := Aside0.mk A1700
                    clear A1700
                    replace H := Option.bind_eq_some_iff.mp H
                    obtain ⟨t1455, A1710, H⟩ := H
                    replace H : (if t1455 = true then ((scalar_Zero.f kj125 t1412).bind fun t1456 => (if (t1453 != t1456) = true then (if t1453 = true then ((chicorylaw06_awake.f kj125).bind fun t1457 => (some t1457)) else ((scalar_Zero.f kj125 t1449).bind fun t1458 => (if t1458 = true then ((chicorylaw06_awake.f kj125).bind fun t1459 => (some t1459)) else (some false)))) else (some false))) else (some false)) = some true := H
                    have A171 := Aside0.mk A1710
                    clear A1710
                    by_cases c172 : t1455 = true
                    · subst c172
                      have H1 : ((scalar_Zero.f kj125 t1412).bind fun t1456 => (if (t1453 != t1456) = true then (if t1453 = true then ((chicorylaw06_awake.f kj125).bind fun t1457 => (some t1457)) else ((scalar_Zero.f kj125 t1449).bind fun t1458 => (if t1458 = true then ((chicorylaw06_awake.f kj125).bind fun t1459 => (some t1459)) else (some false)))) else (some false))) = some true := by rw [if_pos rfl] at H; exact H
                      clear H; have H := H1; clear H1
                      replace H := Option.bind_eq_some_iff.mp H
                      obtain ⟨t1456, A1730, H⟩ := H
                      replace H : (if (t1453 != t1456) = true then (if t1453 = true then ((chicorylaw06_awake.f kj125).bind fun t1457 => (some t1457)) else ((scalar_Zero.f kj125 t1449).bind fun t1458 => (if t1458 = true then ((chicorylaw06_awake.f kj125).bind fun t1459 => (some t1459)) else (some false)))) else (some false)) = some true := H
                      have A173 := Aside0.mk A1730
                      clear A1730
                      by_cases c174 : (t1453 != t1456) = true
                      · rw [if_pos c174] at H
                        have c174b0 : (t1453 != t1456) = true := c174
                        (try (have c174b1 : decide (t1453 = t1456) = false := by simpa using c174))
                        (try (have c174b2 : (t1453 == t1456) = false := by simpa using c174))
                        (try (have c174b3 : ¬ (t1453 = t1456) := by simpa using c174))
                        clear c174
                        by_cases c175 : t1453 = true
                        · subst c175
                          have H1 : ((chicorylaw06_awake.f kj125).bind fun t1457 => (some t1457)) = some true := by rw [if_pos rfl] at H; exact H
                          clear H; have H := H1; clear H1
                          replace H := Option.bind_eq_some_iff.mp H
                          obtain ⟨t1457, A1760, H⟩ := H
                          replace H : (some t1457) = some true := H
                          have A176 := Aside0.mk A1760
                          clear A1760
                          obtain rfl := Option.some.inj H
                          have hnb177 := NB1414_1409.out
                          have hnc177 := NB1409_1414.out
                          have hnb178 := NB1414_1410.out
                          have hnc178 := NB1410_1414.out
                          have hnb179 := NB1414_1411.out
                          have hnc179 := NB1411_1414.out
                          have hnb180 := NB1414_1417.out
                          have hnc180 := NB1417_1414.out
                          have hnb181 := NB1414_1420.out
                          have hnc181 := NB1420_1414.out
                          have hnb182 := NB1414_1422.out
                          have hnc182 := NB1422_1414.out
                          have hnb183 := NB1414_1424.out
                          have hnc183 := NB1424_1414.out
                          obtain ⟨hcz184_0, hcz184_0_c1, hcz184_0_c2, hcz184_0_c3, hcz184_0_c4, hcz184_0_c5, hcz184_0_c6⟩ := c7_of (a := t1412) BK1414.out rfl
                          obtain ⟨hfz184_0, hfz184_0_c1, hfz184_0_c2, hfz184_0_c3, hfz184_0_c4, hfz184_0_c5, hfz184_0_c6⟩ := fz7 BK1414.out
                          try go_wp2_with (first | ((with_reducible refine gate_callee (f := 74) rfl ?_); refine goesL_ (some 116) rfl rfl Try.func74 (by kernel_rfl) rfl #[.agg (sv t1412)] rfl (by (try simp only [List.map_toArray, List.map_cons, List.map_nil]); first | done | rfl | (simp only [List.length_drop, List.length_take]; rfl)) ?_; (with_reducible refine (scalar_Half.calls kj125 t1412 t1447 _ A165.out).mono ?_); rintro e w185 ⟨rfl, hb⟩; refine ⟨_, rfl, ?_⟩; have n0_ := bkb BK1409 hb; have n1_ := bkb BK1410 hb; have n2_ := bkb BK1411 hb; have n3_ := bkb BK1414 hb; have n4_ := bkb BK1417 hb; have n5_ := bkb BK1420 hb; have n6_ := bkb BK1422 hb; have n7_ := bkb BK1424 hb; have n8_ := bel HB hb; clear BK1409; clear BK1410; clear BK1411; clear BK1414; clear BK1417; clear BK1420; clear BK1422; clear BK1424; clear HB; have BK1409 := n0_; have BK1410 := n1_; have BK1411 := n2_; have BK1414 := n3_; have BK1417 := n4_; have BK1420 := n5_; have BK1422 := n6_; have BK1424 := n7_; have HB := n8_; clear n0_ n1_ n2_ n3_ n4_ n5_ n6_ n7_ n8_; (try clear hb); (try clear hb2); (try clear hk); (try clear hi)) | ((with_reducible refine gate_dst (N := 15) rfl ?_); refine box_event ?hg (N := 15) ?hd (cs := zv) (t := 73) ?hr ?_; (case hd => rfl); (case hg => rfl); (case hr => first | (go_simp; done) | (go_simp; rfl)); intro gb1448 hg w186 hbox hb; have n0_ := bkb BK1409 hb; have n1_ := bkb BK1410 hb; have n2_ := bkb BK1411 hb; have n3_ := bkb BK1414 hb; have n4_ := bkb BK1417 hb; have n5_ := bkb BK1420 hb; have n6_ := bkb BK1422 hb; have n7_ := bkb BK1424 hb; have n8_ := bel HB hb; have n9_ := Aside0.mk (hbox); have n10_ := Aside0.mk ((by rw [hg]; exact (below_size HB.out) : w.heap.size ≤ gb1448)); have n11_ := Aside0.mk ((by rw [hg]; exact (below_size HB.out) : w.heap.size ≤ gb1448)); have n12_ := Aside0.mk ((by rw [hg]; exact Nat.ne_of_lt (blk_lt (g := gb1409) (o := .cells (rv a0_0) 70 (0, 0)) (by (with_reducible repeat (first | refine blk_drewN ?_ _ | refine blk_drew ?_ | refine blk_alloc ?_ _)); exact BK1409.out)) : gb1409 ≠ gb1448)); have n13_ := Aside0.mk ((by rw [hg]; exact Nat.ne_of_gt (blk_lt (g := gb1409) (o := .cells (rv a0_0) 70 (0, 0)) (by (with_reducible repeat (first | refine blk_drewN ?_ _ | refine blk_drew ?_ | refine blk_alloc ?_ _)); exact BK1409.out)) : gb1448 ≠ gb1409)); have n14_ := Aside0.mk ((by rw [hg]; exact Nat.ne_of_lt (blk_lt (g := gb1410) (o := .cells (rv a1_0) 70 (0, 0)) (by (with_reducible repeat (first | refine blk_drewN ?_ _ | refine blk_drew ?_ | refine blk_alloc ?_ _)); exact BK1410.out)) : gb1410 ≠ gb1448)); have n15_ := Aside0.mk ((by rw [hg]; exact Nat.ne_of_gt (blk_lt (g := gb1410) (o := .cells (rv a1_0) 70 (0, 0)) (by (with_reducible repeat (first | refine blk_drewN ?_ _ | refine blk_drew ?_ | refine blk_alloc ?_ _)); exact BK1410.out)) : gb1448 ≠ gb1410)); have n16_ := Aside0.mk ((by rw [hg]; exact Nat.ne_of_lt (blk_lt (g := gb1411) (o := .cells (rv a2_0) 70 (0, 0)) (by (with_reducible repeat (first | refine blk_drewN ?_ _ | refine blk_drew ?_ | refine blk_alloc ?_ _)); exact BK1411.out)) : gb1411 ≠ gb1448)); have n17_ := Aside0.mk ((by rw [hg]; exact Nat.ne_of_gt (blk_lt (g := gb1411) (o := .cells (rv a2_0) 70 (0, 0)) (by (with_reducible repeat (first | refine blk_drewN ?_ _ | refine blk_drew ?_ | refine blk_alloc ?_ _)); exact BK1411.out)) : gb1448 ≠ gb1411)); have n18_ := Aside0.mk ((by rw [hg]; exact Nat.ne_of_lt (blk_lt (g := gb1414) (o := .cells (sv t1412) 73 (0, 0)) (by (with_reducible repeat (first | refine blk_drewN ?_ _ | refine blk_drew ?_ | refine blk_alloc ?_ _)); exact BK1414.out)) : gb1414 ≠ gb1448)); have n19_ := Aside0.mk ((by rw [hg]; exact Nat.ne_of_gt (blk_lt (g := gb1414) (o := .cells (sv t1412) 73 (0, 0)) (by (with_reducible repeat (first | refine blk_drewN ?_ _ | refine blk_drew ?_ | refine blk_alloc ?_ _)); exact BK1414.out)) : gb1448 ≠ gb1414)); have n20_ := Aside0.mk ((by rw [hg]; exact Nat.ne_of_lt (blk_lt (g := gb1417) (o := .cells (sv t1415) 73 (0, 0)) (by (with_reducible repeat (first | refine blk_drewN ?_ _ | refine blk_drew ?_ | refine blk_alloc ?_ _)); exact BK1417.out)) : gb1417 ≠ gb1448)); have n21_ := Aside0.mk ((by rw [hg]; exact Nat.ne_of_gt (blk_lt (g := gb1417) (o := .cells (sv t1415) 73 (0, 0)) (by (with_reducible repeat (first | refine blk_drewN ?_ _ | refine blk_drew ?_ | refine blk_alloc ?_ _)); exact BK1417.out)) : gb1448 ≠ gb1417)); have n22_ := Aside0.mk ((by rw [hg]; exact Nat.ne_of_lt (blk_lt (g := gb1420) (o := .cells (sv t1418) 73 (0, 0)) (by (with_reducible repeat (first | refine blk_drewN ?_ _ | refine blk_drew ?_ | refine blk_alloc ?_ _)); exact BK1420.out)) : gb1420 ≠ gb1448)); have n23_ := Aside0.mk ((by rw [hg]; exact Nat.ne_of_gt (blk_lt (g := gb1420) (o := .cells (sv t1418) 73 (0, 0)) (by (with_reducible repeat (first | refine blk_drewN ?_ _ | refine blk_drew ?_ | refine blk_alloc ?_ _)); exact BK1420.out)) : gb1448 ≠ gb1420)); have n24_ := Aside0.mk ((by rw [hg]; exact Nat.ne_of_lt (blk_lt (g := gb1422) (o := .cells (sv t1421) 73 (0, 0)) (by (with_reducible repeat (first | refine blk_drewN ?_ _ | refine blk_drew ?_ | refine blk_alloc ?_ _)); exact BK1422.out)) : gb1422 ≠ gb1448)); have n25_ := Aside0.mk ((by rw [hg]; exact Nat.ne_of_gt (blk_lt (g := gb1422) (o := .cells (sv t1421) 73 (0, 0)) (by (with_reducible repeat (first | refine blk_drewN ?_ _ | refine blk_drew ?_ | refine blk_alloc ?_ _)); exact BK1422.out)) : gb1448 ≠ gb1422)); have n26_ := Aside0.mk ((by rw [hg]; exact Nat.ne_of_lt (blk_lt (g := gb1424) (o := .cells (sv t1423) 73 (0, 0)) (by (with_reducible repeat (first | refine blk_drewN ?_ _ | refine blk_drew ?_ | refine blk_alloc ?_ _)); exact BK1424.out)) : gb1424 ≠ gb1448)); have n27_ := Aside0.mk ((by rw [hg]; exact Nat.ne_of_gt (blk_lt (g := gb1424) (o := .cells (sv t1423) 73 (0, 0)) (by (with_reducible repeat (first | refine blk_drewN ?_ _ | refine blk_drew ?_ | refine blk_alloc ?_ _)); exact BK1424.out)) : gb1448 ≠ gb1424)); clear BK1409; clear BK1410; clear BK1411; clear BK1414; clear BK1417; clear BK1420; clear BK1422; clear BK1424; clear HB; have BK1409 := n0_; have BK1410 := n1_; have BK1411 := n2_; have BK1414 := n3_; have BK1417 := n4_; have BK1420 := n5_; have BK1422 := n6_; have BK1424 := n7_; have HB := n8_; have BK1448 := n9_; have GW1448 := n10_; have GE1448 := n11_; have NB1409_1448 := n12_; have NB1448_1409 := n13_; have NB1410_1448 := n14_; have NB1448_1410 := n15_; have NB1411_1448 := n16_; have NB1448_1411 := n17_; have NB1414_1448 := n18_; have NB1448_1414 := n19_; have NB1417_1448 := n20_; have NB1448_1417 := n21_; have NB1420_1448 := n22_; have NB1448_1420 := n23_; have NB1422_1448 := n24_; have NB1448_1422 := n25_; have NB1424_1448 := n26_; have NB1448_1424 := n27_; clear n0_ n1_ n2_ n3_ n4_ n5_ n6_ n7_ n8_ n9_ n10_ n11_ n12_ n13_ n14_ n15_ n16_ n17_ n18_ n19_ n20_ n21_ n22_ n23_ n24_ n25_ n26_ n27_; clear hb hbox hg; have hnb187 := NB1448_1409.out; have hnc187 := NB1409_1448.out; have hnb188 := NB1448_1410.out; have hnc188 := NB1410_1448.out; have hnb189 := NB1448_1411.out; have hnc189 := NB1411_1448.out; have hnb190 := NB1448_1414.out; have hnc190 := NB1414_1448.out; have hnb191 := NB1448_1417.out; have hnc191 := NB1417_1448.out; have hnb192 := NB1448_1420.out; have hnc192 := NB1420_1448.out; have hnb193 := NB1448_1422.out; have hnc193 := NB1422_1448.out; have hnb194 := NB1448_1424.out; have hnc194 := NB1424_1448.out; obtain ⟨hcz195_0, hcz195_0_c1, hcz195_0_c2, hcz195_0_c3, hcz195_0_c4, hcz195_0_c5, hcz195_0_c6⟩ := c7_of (a := z7) BK1448.out rfl; obtain ⟨hfz195_0, hfz195_0_c1, hfz195_0_c2, hfz195_0_c3, hfz195_0_c4, hfz195_0_c5, hfz195_0_c6⟩ := fz7 BK1448.out; obtain ⟨hcz196_0, hcz196_0_c1, hcz196_0_c2, hcz196_0_c3, hcz196_0_c4, hcz196_0_c5, hcz196_0_c6⟩ := c7_of (a := t1412) BK1414.out rfl; obtain ⟨hfz196_0, hfz196_0_c1, hfz196_0_c2, hfz196_0_c3, hfz196_0_c4, hfz196_0_c5, hfz196_0_c6⟩ := fz7 BK1414.out) | ((with_reducible refine gate_callee (f := 81) rfl ?_); refine goesL_ (some 118) rfl rfl Try.func81 (by kernel_rfl) rfl #[.agg (sv t1412)] rfl (by (try simp only [List.map_toArray, List.map_cons, List.map_nil]); first | done | rfl | (simp only [List.length_drop, List.length_take]; rfl)) ?_; (with_reducible refine (scalar_Inverse.calls kj125 t1412 t1449 _ A166.out).mono ?_); rintro e w197 ⟨rfl, hb⟩; refine ⟨_, rfl, ?_⟩; have n0_ := Aside0.mk (blk_below (g := gb1409) (o := .cells (rv a0_0) 70 (0, 0)) (by (with_reducible repeat (first | refine blk_drewN ?_ _ | refine blk_drew ?_ | refine blk_alloc ?_ _)); refine blk_far7 ?_ NB1409_1448.out; (with_reducible repeat (first | refine blk_drewN ?_ _ | refine blk_drew ?_ | refine blk_alloc ?_ _)); exact BK1409.out) hb); have n1_ := Aside0.mk (blk_below (g := gb1410) (o := .cells (rv a1_0) 70 (0, 0)) (by (with_reducible repeat (first | refine blk_drewN ?_ _ | refine blk_drew ?_ | refine blk_alloc ?_ _)); refine blk_far7 ?_ NB1410_1448.out; (with_reducible repeat (first | refine blk_drewN ?_ _ | refine blk_drew ?_ | refine blk_alloc ?_ _)); exact BK1410.out) hb); have n2_ := Aside0.mk (blk_below (g := gb1411) (o := .cells (rv a2_0) 70 (0, 0)) (by (with_reducible repeat (first | refine blk_drewN ?_ _ | refine blk_drew ?_ | refine blk_alloc ?_ _)); refine blk_far7 ?_ NB1411_1448.out; (with_reducible repeat (first | refine blk_drewN ?_ _ | refine blk_drew ?_ | refine blk_alloc ?_ _)); exact BK1411.out) hb); have n3_ := Aside0.mk (blk_below (g := gb1414) (o := .cells (sv t1412) 73 (0, 0)) (by (with_reducible repeat (first | refine blk_drewN ?_ _ | refine blk_drew ?_ | refine blk_alloc ?_ _)); refine blk_far7 ?_ NB1414_1448.out; (with_reducible repeat (first | refine blk_drewN ?_ _ | refine blk_drew ?_ | refine blk_alloc ?_ _)); exact BK1414.out) hb); have n4_ := Aside0.mk (blk_below (g := gb1417) (o := .cells (sv t1415) 73 (0, 0)) (by (with_reducible repeat (first | refine blk_drewN ?_ _ | refine blk_drew ?_ | refine blk_alloc ?_ _)); refine blk_far7 ?_ NB1417_1448.out; (with_reducible repeat (first | refine blk_drewN ?_ _ | refine blk_drew ?_ | refine blk_alloc ?_ _)); exact BK1417.out) hb); have n5_ := Aside0.mk (blk_below (g := gb1420) (o := .cells (sv t1418) 73 (0, 0)) (by (with_reducible repeat (first | refine blk_drewN ?_ _ | refine blk_drew ?_ | refine blk_alloc ?_ _)); refine blk_far7 ?_ NB1420_1448.out; (with_reducible repeat (first | refine blk_drewN ?_ _ | refine blk_drew ?_ | refine blk_alloc ?_ _)); exact BK1420.out) hb); have n6_ := Aside0.mk (blk_below (g := gb1422) (o := .cells (sv t1421) 73 (0, 0)) (by (with_reducible repeat (first | refine blk_drewN ?_ _ | refine blk_drew ?_ | refine blk_alloc ?_ _)); refine blk_far7 ?_ NB1422_1448.out; (with_reducible repeat (first | refine blk_drewN ?_ _ | refine blk_drew ?_ | refine blk_alloc ?_ _)); exact BK1422.out) hb); have n7_ := Aside0.mk (blk_below (g := gb1424) (o := .cells (sv t1423) 73 (0, 0)) (by (with_reducible repeat (first | refine blk_drewN ?_ _ | refine blk_drew ?_ | refine blk_alloc ?_ _)); refine blk_far7 ?_ NB1424_1448.out; (with_reducible repeat (first | refine blk_drewN ?_ _ | refine blk_drew ?_ | refine blk_alloc ?_ _)); exact BK1424.out) hb); have n8_ := Aside0.mk (blk_below (g := gb1448) (o := .cells (sv t1447) 73 (0, 0)) (by (with_reducible repeat (first | refine blk_drewN ?_ _ | refine blk_drew ?_ | refine blk_alloc ?_ _)); refine blk_put7z ?_; (with_reducible repeat (first | refine blk_drewN ?_ _ | refine blk_drew ?_ | refine blk_alloc ?_ _)); exact BK1448.out) hb); have n9_ := Aside0.mk (below_step (by repeat (first | (with_reducible first | exact HB.out | apply below_alloc | apply pw_below_drewN | apply below_drew1 | refine below_set ?_ GE1409.out | refine below_set ?_ GE1410.out | refine below_set ?_ GE1411.out | refine below_set ?_ GE1414.out | refine below_set ?_ GE1417.out | refine below_set ?_ GE1420.out | refine below_set ?_ GE1422.out | refine below_set ?_ GE1424.out | refine below_set ?_ GE1448.out) | exact HB.out)) hb); clear BK1409; clear BK1410; clear BK1411; clear BK1414; clear BK1417; clear BK1420; clear BK1422; clear BK1424; clear BK1448; clear HB; have BK1409 := n0_; have BK1410 := n1_; have BK1411 := n2_; have BK1414 := n3_; have BK1417 := n4_; have BK1420 := n5_; have BK1422 := n6_; have BK1424 := n7_; have BK1448 := n8_; have HB := n9_; clear n0_ n1_ n2_ n3_ n4_ n5_ n6_ n7_ n8_ n9_; (try clear hb); (try clear hb2); (try clear hk); (try clear hi)) | ((with_reducible refine gate_dst (N := 16) rfl ?_); refine box_event ?hg (N := 16) ?hd (cs := zv) (t := 73) ?hr ?_; (case hd => rfl); (case hg => rfl); (case hr => first | (go_simp; done) | (go_simp; rfl)); intro gb1450 hg w198 hbox hb; have n0_ := bkb BK1409 hb; have n1_ := bkb BK1410 hb; have n2_ := bkb BK1411 hb; have n3_ := bkb BK1414 hb; have n4_ := bkb BK1417 hb; have n5_ := bkb BK1420 hb; have n6_ := bkb BK1422 hb; have n7_ := bkb BK1424 hb; have n8_ := bkb BK1448 hb; have n9_ := bel HB hb; have n10_ := Aside0.mk (hbox); have n11_ := Aside0.mk ((by rw [hg]; exact (below_size HB.out) : w.heap.size ≤ gb1450)); have n12_ := Aside0.mk ((by rw [hg]; exact (below_size HB.out) : w.heap.size ≤ gb1450)); have n13_ := Aside0.mk ((by rw [hg]; exact Nat.ne_of_lt (blk_lt (g := gb1409) (o := .cells (rv a0_0) 70 (0, 0)) (by (with_reducible repeat (first | refine blk_drewN ?_ _ | refine blk_drew ?_ | refine blk_alloc ?_ _)); exact BK1409.out)) : gb1409 ≠ gb1450)); have n14_ := Aside0.mk ((by rw [hg]; exact Nat.ne_of_gt (blk_lt (g := gb1409) (o := .cells (rv a0_0) 70 (0, 0)) (by (with_reducible repeat (first | refine blk_drewN ?_ _ | refine blk_drew ?_ | refine blk_alloc ?_ _)); exact BK1409.out)) : gb1450 ≠ gb1409)); have n15_ := Aside0.mk ((by rw [hg]; exact Nat.ne_of_lt (blk_lt (g := gb1410) (o := .cells (rv a1_0) 70 (0, 0)) (by (with_reducible repeat (first | refine blk_drewN ?_ _ | refine blk_drew ?_ | refine blk_alloc ?_ _)); exact BK1410.out)) : gb1410 ≠ gb1450)); have n16_ := Aside0.mk ((by rw [hg]; exact Nat.ne_of_gt (blk_lt (g := gb1410) (o := .cells (rv a1_0) 70 (0, 0)) (by (with_reducible repeat (first | refine blk_drewN ?_ _ | refine blk_drew ?_ | refine blk_alloc ?_ _)); exact BK1410.out)) : gb1450 ≠ gb1410)); have n17_ := Aside0.mk ((by rw [hg]; exact Nat.ne_of_lt (blk_lt (g := gb1411) (o := .cells (rv a2_0) 70 (0, 0)) (by (with_reducible repeat (first | refine blk_drewN ?_ _ | refine blk_drew ?_ | refine blk_alloc ?_ _)); exact BK1411.out)) : gb1411 ≠ gb1450)); have n18_ := Aside0.mk ((by rw [hg]; exact Nat.ne_of_gt (blk_lt (g := gb1411) (o := .cells (rv a2_0) 70 (0, 0)) (by (with_reducible repeat (first | refine blk_drewN ?_ _ | refine blk_drew ?_ | refine blk_alloc ?_ _)); exact BK1411.out)) : gb1450 ≠ gb1411)); have n19_ := Aside0.mk ((by rw [hg]; exact Nat.ne_of_lt (blk_lt (g := gb1414) (o := .cells (sv t1412) 73 (0, 0)) (by (with_reducible repeat (first | refine blk_drewN ?_ _ | refine blk_drew ?_ | refine blk_alloc ?_ _)); exact BK1414.out)) : gb1414 ≠ gb1450)); have n20_ := Aside0.mk ((by rw [hg]; exact Nat.ne_of_gt (blk_lt (g := gb1414) (o := .cells (sv t1412) 73 (0, 0)) (by (with_reducible repeat (first | refine blk_drewN ?_ _ | refine blk_drew ?_ | refine blk_alloc ?_ _)); exact BK1414.out)) : gb1450 ≠ gb1414)); have n21_ := Aside0.mk ((by rw [hg]; exact Nat.ne_of_lt (blk_lt (g := gb1417) (o := .cells (sv t1415) 73 (0, 0)) (by (with_reducible repeat (first | refine blk_drewN ?_ _ | refine blk_drew ?_ | refine blk_alloc ?_ _)); exact BK1417.out)) : gb1417 ≠ gb1450)); have n22_ := Aside0.mk ((by rw [hg]; exact Nat.ne_of_gt (blk_lt (g := gb1417) (o := .cells (sv t1415) 73 (0, 0)) (by (with_reducible repeat (first | refine blk_drewN ?_ _ | refine blk_drew ?_ | refine blk_alloc ?_ _)); exact BK1417.out)) : gb1450 ≠ gb1417)); have n23_ := Aside0.mk ((by rw [hg]; exact Nat.ne_of_lt (blk_lt (g := gb1420) (o := .cells (sv t1418) 73 (0, 0)) (by (with_reducible repeat (first | refine blk_drewN ?_ _ | refine blk_drew ?_ | refine blk_alloc ?_ _)); exact BK1420.out)) : gb1420 ≠ gb1450)); have n24_ := Aside0.mk ((by rw [hg]; exact Nat.ne_of_gt (blk_lt (g := gb1420) (o := .cells (sv t1418) 73 (0, 0)) (by (with_reducible repeat (first | refine blk_drewN ?_ _ | refine blk_drew ?_ | refine blk_alloc ?_ _)); exact BK1420.out)) : gb1450 ≠ gb1420)); have n25_ := Aside0.mk ((by rw [hg]; exact Nat.ne_of_lt (blk_lt (g := gb1422) (o := .cells (sv t1421) 73 (0, 0)) (by (with_reducible repeat (first | refine blk_drewN ?_ _ | refine blk_drew ?_ | refine blk_alloc ?_ _)); exact BK1422.out)) : gb1422 ≠ gb1450)); have n26_ := Aside0.mk ((by rw [hg]; exact Nat.ne_of_gt (blk_lt (g := gb1422) (o := .cells (sv t1421) 73 (0, 0)) (by (with_reducible repeat (first | refine blk_drewN ?_ _ | refine blk_drew ?_ | refine blk_alloc ?_ _)); exact BK1422.out)) : gb1450 ≠ gb1422)); have n27_ := Aside0.mk ((by rw [hg]; exact Nat.ne_of_lt (blk_lt (g := gb1424) (o := .cells (sv t1423) 73 (0, 0)) (by (with_reducible repeat (first | refine blk_drewN ?_ _ | refine blk_drew ?_ | refine blk_alloc ?_ _)); exact BK1424.out)) : gb1424 ≠ gb1450)); have n28_ := Aside0.mk ((by rw [hg]; exact Nat.ne_of_gt (blk_lt (g := gb1424) (o := .cells (sv t1423) 73 (0, 0)) (by (with_reducible repeat (first | refine blk_drewN ?_ _ | refine blk_drew ?_ | refine blk_alloc ?_ _)); exact BK1424.out)) : gb1450 ≠ gb1424)); have n29_ := Aside0.mk ((by rw [hg]; exact Nat.ne_of_lt (blk_lt (g := gb1448) (o := .cells (sv t1447) 73 (0, 0)) (by (with_reducible repeat (first | refine blk_drewN ?_ _ | refine blk_drew ?_ | refine blk_alloc ?_ _)); exact BK1448.out)) : gb1448 ≠ gb1450)); have n30_ := Aside0.mk ((by rw [hg]; exact Nat.ne_of_gt (blk_lt (g := gb1448) (o := .cells (sv t1447) 73 (0, 0)) (by (with_reducible repeat (first | refine blk_drewN ?_ _ | refine blk_drew ?_ | refine blk_alloc ?_ _)); exact BK1448.out)) : gb1450 ≠ gb1448)); clear BK1409; clear BK1410; clear BK1411; clear BK1414; clear BK1417; clear BK1420; clear BK1422; clear BK1424; clear BK1448; clear HB; have BK1409 := n0_; have BK1410 := n1_; have BK1411 := n2_; have BK1414 := n3_; have BK1417 := n4_; have BK1420 := n5_; have BK1422 := n6_; have BK1424 := n7_; have BK1448 := n8_; have HB := n9_; have BK1450 := n10_; have GW1450 := n11_; have GE1450 := n12_; have NB1409_1450 := n13_; have NB1450_1409 := n14_; have NB1410_1450 := n15_; have NB1450_1410 := n16_; have NB1411_1450 := n17_; have NB1450_1411 := n18_; have NB1414_1450 := n19_; have NB1450_1414 := n20_; have NB1417_1450 := n21_; have NB1450_1417 := n22_; have NB1420_1450 := n23_; have NB1450_1420 := n24_; have NB1422_1450 := n25_; have NB1450_1422 := n26_; have NB1424_1450 := n27_; have NB1450_1424 := n28_; have NB1448_1450 := n29_; have NB1450_1448 := n30_; clear n0_ n1_ n2_ n3_ n4_ n5_ n6_ n7_ n8_ n9_ n10_ n11_ n12_ n13_ n14_ n15_ n16_ n17_ n18_ n19_ n20_ n21_ n22_ n23_ n24_ n25_ n26_ n27_ n28_ n29_ n30_; clear hb hbox hg; have hnb199 := NB1450_1409.out; have hnc199 := NB1409_1450.out; have hnb200 := NB1450_1410.out; have hnc200 := NB1410_1450.out; have hnb201 := NB1450_1411.out; have hnc201 := NB1411_1450.out; have hnb202 := NB1450_1414.out; have hnc202 := NB1414_1450.out; have hnb203 := NB1450_1417.out; have hnc203 := NB1417_1450.out; have hnb204 := NB1450_1420.out; have hnc204 := NB1420_1450.out; have hnb205 := NB1450_1422.out; have hnc205 := NB1422_1450.out; have hnb206 := NB1450_1424.out; have hnc206 := NB1424_1450.out; have hnb207 := NB1450_1448.out; have hnc207 := NB1448_1450.out; obtain ⟨hcz208_0, hcz208_0_c1, hcz208_0_c2, hcz208_0_c3, hcz208_0_c4, hcz208_0_c5, hcz208_0_c6⟩ := c7_of (a := z7) BK1450.out rfl; obtain ⟨hfz208_0, hfz208_0_c1, hfz208_0_c2, hfz208_0_c3, hfz208_0_c4, hfz208_0_c5, hfz208_0_c6⟩ := fz7 BK1450.out; obtain ⟨hcz209_0, hcz209_0_c1, hcz209_0_c2, hcz209_0_c3, hcz209_0_c4, hcz209_0_c5, hcz209_0_c6⟩ := c7_of (a := t1412) BK1414.out rfl; obtain ⟨hfz209_0, hfz209_0_c1, hfz209_0_c2, hfz209_0_c3, hfz209_0_c4, hfz209_0_c5, hfz209_0_c6⟩ := fz7 BK1414.out) | ((with_reducible refine gate_callee (f := 72) rfl ?_); refine goesL_ (some 121) rfl rfl Try.func72 (by kernel_rfl) rfl #[.agg (sv t1412), .agg (sv t1449)] rfl (by (try simp only [List.map_toArray, List.map_cons, List.map_nil]); first | done | rfl | (simp only [List.length_drop, List.length_take]; rfl)) ?_; (with_reducible refine (scalar_Mul.calls kj125 t1412 t1449 t1451 _ A167.out).mono ?_); rintro e w210 ⟨rfl, hb⟩; refine ⟨_, rfl, ?_⟩; have n0_ := Aside0.mk (blk_below (g := gb1409) (o := .cells (rv a0_0) 70 (0, 0)) (by (with_reducible repeat (first | refine blk_drewN ?_ _ | refine blk_drew ?_ | refine blk_alloc ?_ _)); refine blk_far7 ?_ NB1409_1450.out; (with_reducible repeat (first | refine blk_drewN ?_ _ | refine blk_drew ?_ | refine blk_alloc ?_ _)); exact BK1409.out) hb); have n1_ := Aside0.mk (blk_below (g := gb1410) (o := .cells (rv a1_0) 70 (0, 0)) (by (with_reducible repeat (first | refine blk_drewN ?_ _ | refine blk_drew ?_ | refine blk_alloc ?_ _)); refine blk_far7 ?_ NB1410_1450.out; (with_reducible repeat (first | refine blk_drewN ?_ _ | refine blk_drew ?_ | refine blk_alloc ?_ _)); exact BK1410.out) hb); have n2_ := Aside0.mk (blk_below (g := gb1411) (o := .cells (rv a2_0) 70 (0, 0)) (by (with_reducible repeat (first | refine blk_drewN ?_ _ | refine blk_drew ?_ | refine blk_alloc ?_ _)); refine blk_far7 ?_ NB1411_1450.out; (with_reducible repeat (first | refine blk_drewN ?_ _ | refine blk_drew ?_ | refine blk_alloc ?_ _)); exact BK1411.out) hb); have n3_ := Aside0.mk (blk_below (g := gb1414) (o := .cells (sv t1412) 73 (0, 0)) (by (with_reducible repeat (first | refine blk_drewN ?_ _ | refine blk_drew ?_ | refine blk_alloc ?_ _)); refine blk_far7 ?_ NB1414_1450.out; (with_reducible repeat (first | refine blk_drewN ?_ _ | refine blk_drew ?_ | refine blk_alloc ?_ _)); exact BK1414.out) hb); have n4_ := Aside0.mk (blk_below (g := gb1417) (o := .cells (sv t1415) 73 (0, 0)) (by (with_reducible repeat (first | refine blk_drewN ?_ _ | refine blk_drew ?_ | refine blk_alloc ?_ _)); refine blk_far7 ?_ NB1417_1450.out; (with_reducible repeat (first | refine blk_drewN ?_ _ | refine blk_drew ?_ | refine blk_alloc ?_ _)); exact BK1417.out) hb); have n5_ := Aside0.mk (blk_below (g := gb1420) (o := .cells (sv t1418) 73 (0, 0)) (by (with_reducible repeat (first | refine blk_drewN ?_ _ | refine blk_drew ?_ | refine blk_alloc ?_ _)); refine blk_far7 ?_ NB1420_1450.out; (with_reducible repeat (first | refine blk_drewN ?_ _ | refine blk_drew ?_ | refine blk_alloc ?_ _)); exact BK1420.out) hb); have n6_ := Aside0.mk (blk_below (g := gb1422) (o := .cells (sv t1421) 73 (0, 0)) (by (with_reducible repeat (first | refine blk_drewN ?_ _ | refine blk_drew ?_ | refine blk_alloc ?_ _)); refine blk_far7 ?_ NB1422_1450.out; (with_reducible repeat (first | refine blk_drewN ?_ _ | refine blk_drew ?_ | refine blk_alloc ?_ _)); exact BK1422.out) hb); have n7_ := Aside0.mk (blk_below (g := gb1424) (o := .cells (sv t1423) 73 (0, 0)) (by (with_reducible repeat (first | refine blk_drewN ?_ _ | refine blk_drew ?_ | refine blk_alloc ?_ _)); refine blk_far7 ?_ NB1424_1450.out; (with_reducible repeat (first | refine blk_drewN ?_ _ | refine blk_drew ?_ | refine blk_alloc ?_ _)); exact BK1424.out) hb); have n8_ := Aside0.mk (blk_below (g := gb1448) (o := .cells (sv t1447) 73 (0, 0)) (by (with_reducible repeat (first | refine blk_drewN ?_ _ | refine blk_drew ?_ | refine blk_alloc ?_ _)); refine blk_far7 ?_ NB1448_1450.out; (with_reducible repeat (first | refine blk_drewN ?_ _ | refine blk_drew ?_ | refine blk_alloc ?_ _)); exact BK1448.out) hb); have n9_ := Aside0.mk (blk_below (g := gb1450) (o := .cells (sv t1449) 73 (0, 0)) (by (with_reducible repeat (first | refine blk_drewN ?_ _ | refine blk_drew ?_ | refine blk_alloc ?_ _)); refine blk_put7z ?_; (with_reducible repeat (first | refine blk_drewN ?_ _ | refine blk_drew ?_ | refine blk_alloc ?_ _)); exact BK1450.out) hb); have n10_ := Aside0.mk (below_step (by repeat (first | (with_reducible first | exact HB.out | apply below_alloc | apply pw_below_drewN | apply below_drew1 | refine below_set ?_ GE1409.out | refine below_set ?_ GE1410.out | refine below_set ?_ GE1411.out | refine below_set ?_ GE1414.out | refine below_set ?_ GE1417.out | refine below_set ?_ GE1420.out | refine below_set ?_ GE1422.out | refine below_set ?_ GE1424.out | refine below_set ?_ GE1448.out | refine below_set ?_ GE1450.out) | exact HB.out)) hb); clear BK1409; clear BK1410; clear BK1411; clear BK1414; clear BK1417; clear BK1420; clear BK1422; clear BK1424; clear BK1448; clear BK1450; clear HB; have BK1409 := n0_; have BK1410 := n1_; have BK1411 := n2_; have BK1414 := n3_; have BK1417 := n4_; have BK1420 := n5_; have BK1422 := n6_; have BK1424 := n7_; have BK1448 := n8_; have BK1450 := n9_; have HB := n10_; clear n0_ n1_ n2_ n3_ n4_ n5_ n6_ n7_ n8_ n9_ n10_; (try clear hb); (try clear hb2); (try clear hk); (try clear hi)) | ((with_reducible refine gate_callee (f := 69) rfl ?_); refine goesL_ (some 122) rfl rfl Try.func69 (by kernel_rfl) rfl #[.int .i64 1] rfl (by (try simp only [List.map_toArray, List.map_cons, List.map_nil]); first | done | rfl | (simp only [List.length_drop, List.length_take]; rfl)) ?_; (with_reducible refine (scalar_Int.calls kj125 1 t1452 _ A168.out).mono ?_); rintro e w211 ⟨rfl, hb⟩; refine ⟨_, rfl, ?_⟩; have n0_ := bkb BK1409 hb; have n1_ := bkb BK1410 hb; have n2_ := bkb BK1411 hb; have n3_ := bkb BK1414 hb; have n4_ := bkb BK1417 hb; have n5_ := bkb BK1420 hb; have n6_ := bkb BK1422 hb; have n7_ := bkb BK1424 hb; have n8_ := bkb BK1448 hb; have n9_ := bkb BK1450 hb; have n10_ := bel HB hb; clear BK1409; clear BK1410; clear BK1411; clear BK1414; clear BK1417; clear BK1420; clear BK1422; clear BK1424; clear BK1448; clear BK1450; clear HB; have BK1409 := n0_; have BK1410 := n1_; have BK1411 := n2_; have BK1414 := n3_; have BK1417 := n4_; have BK1420 := n5_; have BK1422 := n6_; have BK1424 := n7_; have BK1448 := n8_; have BK1450 := n9_; have HB := n10_; clear n0_ n1_ n2_ n3_ n4_ n5_ n6_ n7_ n8_ n9_ n10_; (try clear hb); (try clear hb2); (try clear hk); (try clear hi)) | ((with_reducible refine gate_callee (f := 76) rfl ?_); refine goesL_ (some 123) rfl rfl Try.func76 (by kernel_rfl) rfl #[.agg (sv t1451), .agg (sv t1452)] rfl (by (try simp only [List.map_toArray, List.map_cons, List.map_nil]); first | done | rfl | (simp only [List.length_drop, List.length_take]; rfl)) ?_; (with_reducible refine (scalar_Equal.calls kj125 t1451 t1452 true _ A169.out).mono ?_); rintro e w212 ⟨rfl, hb⟩; refine ⟨_, rfl, ?_⟩; have n0_ := bkb BK1409 hb; have n1_ := bkb BK1410 hb; have n2_ := bkb BK1411 hb; have n3_ := bkb BK1414 hb; have n4_ := bkb BK1417 hb; have n5_ := bkb BK1420 hb; have n6_ := bkb BK1422 hb; have n7_ := bkb BK1424 hb; have n8_ := bkb BK1448 hb; have n9_ := bkb BK1450 hb; have n10_ := bel HB hb; clear BK1409; clear BK1410; clear BK1411; clear BK1414; clear BK1417; clear BK1420; clear BK1422; clear BK1424; clear BK1448; clear BK1450; clear HB; have BK1409 := n0_; have BK1410 := n1_; have BK1411 := n2_; have BK1414 := n3_; have BK1417 := n4_; have BK1420 := n5_; have BK1422 := n6_; have BK1424 := n7_; have BK1448 := n8_; have BK1450 := n9_; have HB := n10_; clear n0_ n1_ n2_ n3_ n4_ n5_ n6_ n7_ n8_ n9_ n10_; (try clear hb); (try clear hb2); (try clear hk); (try clear hi)))
                          have n0_ := Aside0.mk (blk_drew BK1409.out)
                          have n1_ := Aside0.mk (blk_drew BK1410.out)
                          have n2_ := Aside0.mk (blk_drew BK1411.out)
                          have n3_ := Aside0.mk (blk_drew BK1414.out)
                          have n4_ := Aside0.mk (blk_drew BK1417.out)
                          have n5_ := Aside0.mk (blk_drew BK1420.out)
                          have n6_ := Aside0.mk (blk_drew BK1422.out)
                          have n7_ := Aside0.mk (blk_drew BK1424.out)
                          have n8_ := Aside0.mk (blk_drew BK1448.out)
                          have n9_ := Aside0.mk (blk_drew BK1450.out)
                          have n10_ := Aside0.mk (below_drew1 HB.out)
                          clear BK1409; clear BK1410; clear BK1411; clear BK1414; clear BK1417; clear BK1420; clear BK1422; clear BK1424; clear BK1448; clear BK1450; clear HB; have BK1409 := n0_; have BK1410 := n1_; have BK1411 := n2_; have BK1414 := n3_; have BK1417 := n4_; have BK1420 := n5_; have BK1422 := n6_; have BK1424 := n7_; have BK1448 := n8_; have BK1450 := n9_; have HB := n10_; clear n0_ n1_ n2_ n3_ n4_ n5_ n6_ n7_ n8_ n9_ n10_
                          refine start_ (n := 22) (S := fun w' => c7 w' gb1448 t1447 ∧ c7 w' gb1414 t1412) (ds := []) #[fA, fA, fA, fA, fA, fA, fA, fA, fA, fA, fA, fA, fA, fA, fA, fA, fA, fA, fA, fA, fA, fA] (by kernel_rfl) rfl rfl ⟨c7_of BK1448.out rfl, c7_of BK1414.out rfl⟩ (fun hHeld => ?_); refine with_tabW chicorylaw06_ScalarRing.tab15 chicorylaw06_ScalarRing.bits15 (fun HT_ HW_ => ?_)
                          generalize w212.drew = w213 at BK1409 BK1410 BK1411 BK1414 BK1417 BK1420 BK1422 BK1424 BK1448 BK1450 HB hHeld ⊢
                          refine take_ (i := 0) (N := some 124) (v := ?_) (a' := ?_) #[tR, fA, fA, fA, fA, fA, fA, fA, fA, fA, fA, fA, fA, fA, fA, fA, fA, fA, fA, fA, fA, fA] rfl rfl (take_ofW HT_.out HW_.out (by kernel_rfl)) (fun _ _ _ h => h) (Or.inl ⟨by rfl, ?_⟩) hHeld ?_ ?_
                          rotate_left
                          · rintro w' ⟨⟨s0, s0_c1, s0_c2, s0_c3, s0_c4, s0_c5, s0_c6⟩, ⟨s1, s1_c1, s1_c2, s1_c3, s1_c4, s1_c5, s1_c6⟩⟩
                            go_simp
                            with_reducible rfl
                          rotate_left
                          · simp only [Act.put, List.setIfInBounds_toArray, List.set_cons_zero, List.set_cons_succ, i64_w, i32_w]
                            rfl
                          refine take_ (i := 1) (N := some 125) (v := ?_) (a' := ?_) #[tR, tR, fA, fA, fA, fA, fA, fA, fA, fA, fA, fA, fA, fA, fA, fA, fA, fA, fA, fA, fA, fA] rfl rfl (take_ofW HT_.out HW_.out (by kernel_rfl)) (fun _ _ _ h => h) (Or.inl ⟨by rfl, ?_⟩) hHeld ?_ ?_
                          rotate_left
                          · rintro w' ⟨⟨s0, s0_c1, s0_c2, s0_c3, s0_c4, s0_c5, s0_c6⟩, ⟨s1, s1_c1, s1_c2, s1_c3, s1_c4, s1_c5, s1_c6⟩⟩
                            go_simp
                            with_reducible rfl
                          rotate_left
                          · simp only [Act.put, List.setIfInBounds_toArray, List.set_cons_zero, List.set_cons_succ, i64_w, i32_w]
                            rfl
                          refine take_ (i := 3) (N := some 127) (v := ?_) (a' := ?_) #[tR, tR, fA, tR, fA, fA, fA, fA, fA, fA, fA, fA, fA, fA, fA, fA, fA, fA, fA, fA, fA, fA] rfl rfl (take_ofW HT_.out HW_.out (by kernel_rfl)) (fun _ _ _ h => h) (Or.inl ⟨by rfl, ?_⟩) hHeld ?_ ?_
                          rotate_left
                          · rintro w' ⟨⟨s0, s0_c1, s0_c2, s0_c3, s0_c4, s0_c5, s0_c6⟩, ⟨s1, s1_c1, s1_c2, s1_c3, s1_c4, s1_c5, s1_c6⟩⟩
                            go_simp
                            with_reducible rfl
                          rotate_left
                          · simp only [Act.put, List.setIfInBounds_toArray, List.set_cons_zero, List.set_cons_succ, i64_w, i32_w]
                            rfl
                          refine one_ (i := 2) (N := some 126) #[tR, tR, tR, tR, fA, fA, fA, fA, fA, fA, fA, fA, fA, fA, fA, fA, fA, fA, fA, fA, fA, fA] rfl rfl (one_of HT_.out (by kernel_rfl)) (by decide) (fun K hK => ?_)
                          refine goes_ Try.func64 (by kernel_rfl) rfl #[.agg (sv t1447), .agg (sv t1447)] (by rfl) rfl rfl (by (try simp only [List.map_toArray, List.map_cons, List.map_nil]); first | done | rfl | (simp only [List.length_drop, List.length_take]; rfl)) ?_
                          with_reducible refine (scalar_Add.calls kj125 t1447 t1447 t1454 _ A170.out).mono ?_
                          rintro e w214 ⟨rfl, hb⟩
                          refine ⟨_, rfl, ?_⟩
                          have n0_ := bkb BK1409 hb; have n1_ := bkb BK1410 hb; have n2_ := bkb BK1411 hb; have n3_ := bkb BK1414 hb; have n4_ := bkb BK1417 hb; have n5_ := bkb BK1420 hb; have n6_ := bkb BK1422 hb; have n7_ := bkb BK1424 hb; have n8_ := bkb BK1448 hb; have n9_ := bkb BK1450 hb; have n10_ := bel HB hb; clear BK1409; clear BK1410; clear BK1411; clear BK1414; clear BK1417; clear BK1420; clear BK1422; clear BK1424; clear BK1448; clear BK1450; clear HB; have BK1409 := n0_; have BK1410 := n1_; have BK1411 := n2_; have BK1414 := n3_; have BK1417 := n4_; have BK1420 := n5_; have BK1422 := n6_; have BK1424 := n7_; have BK1448 := n8_; have BK1450 := n9_; have HB := n10_; clear n0_ n1_ n2_ n3_ n4_ n5_ n6_ n7_ n8_ n9_ n10_; (try clear hb); (try clear hb2); (try clear hk); (try clear hi)
                          refine hK.out _ _ ⟨c7_of BK1448.out rfl, c7_of BK1414.out rfl⟩ (fun hHeld => ?_)
                          clear hK K
                          refine norm_ (a' := ?_) ?_ ?_
                          rotate_left
                          · show Act.put _ (some 126) _ = _
                            simp only [Act.put, List.setIfInBounds_toArray, List.set_cons_zero, List.set_cons_succ, i64_w, i32_w]
                            rfl
                          refine one_ (i := 4) (N := some 128) #[tR, tR, tR, tR, tR, fA, fA, fA, fA, fA, fA, fA, fA, fA, fA, fA, fA, fA, fA, fA, fA, fA] rfl rfl (one_of HT_.out (by kernel_rfl)) (by decide) (fun K hK => ?_)
                          refine goes_ Try.func76 (by kernel_rfl) rfl #[.agg (sv t1454), .agg (sv t1412)] (by rfl) rfl rfl (by (try simp only [List.map_toArray, List.map_cons, List.map_nil]); first | done | rfl | (simp only [List.length_drop, List.length_take]; rfl)) ?_
                          with_reducible refine (scalar_Equal.calls kj125 t1454 t1412 true _ A171.out).mono ?_
                          rintro e w215 ⟨rfl, hb⟩
                          refine ⟨_, rfl, ?_⟩
                          have n0_ := bkb BK1409 hb; have n1_ := bkb BK1410 hb; have n2_ := bkb BK1411 hb; have n3_ := bkb BK1414 hb; have n4_ := bkb BK1417 hb; have n5_ := bkb BK1420 hb; have n6_ := bkb BK1422 hb; have n7_ := bkb BK1424 hb; have n8_ := bkb BK1448 hb; have n9_ := bkb BK1450 hb; have n10_ := bel HB hb; clear BK1409; clear BK1410; clear BK1411; clear BK1414; clear BK1417; clear BK1420; clear BK1422; clear BK1424; clear BK1448; clear BK1450; clear HB; have BK1409 := n0_; have BK1410 := n1_; have BK1411 := n2_; have BK1414 := n3_; have BK1417 := n4_; have BK1420 := n5_; have BK1422 := n6_; have BK1424 := n7_; have BK1448 := n8_; have BK1450 := n9_; have HB := n10_; clear n0_ n1_ n2_ n3_ n4_ n5_ n6_ n7_ n8_ n9_ n10_; (try clear hb); (try clear hb2); (try clear hk); (try clear hi)
                          refine hK.out _ _ ⟨c7_of BK1448.out rfl, c7_of BK1414.out rfl⟩ (fun hHeld => ?_)
                          clear hK K
                          refine norm_ (a' := ?_) ?_ ?_
                          rotate_left
                          · show Act.put _ (some 128) _ = _
                            simp only [Act.put, List.setIfInBounds_toArray, List.set_cons_zero, List.set_cons_succ, i64_w, i32_w]
                            rfl
                          refine pure_ (i := 5) (N := some 129) (v := ?_) (a' := ?_) #[tR, tR, tR, tR, tR, tR, fA, fA, fA, fA, fA, fA, fA, fA, fA, fA, fA, fA, fA, fA, fA, fA] rfl rfl (any_of HT_.out (by kernel_rfl)) (fun _ _ _ h => h) (Or.inl ⟨by rfl, ?_⟩) ?_ ?_
                          rotate_left
                          · intro w'
                            go_simp
                            with_reducible rfl
                          rotate_left
                          · simp only [Act.put, List.setIfInBounds_toArray, List.set_cons_zero, List.set_cons_succ, i64_w, i32_w]
                            rfl
                          refine pure_ (i := 6) (N := some 130) (v := ?_) (a' := ?_) #[tR, tR, tR, tR, tR, tR, tR, fA, fA, fA, fA, fA, fA, fA, fA, fA, fA, fA, fA, fA, fA, fA] rfl rfl (any_of HT_.out (by kernel_rfl)) (fun _ _ _ h => h) (Or.inl ⟨by rfl, ?_⟩) ?_ ?_
                          rotate_left
                          · intro w'
                            go_simp
                            with_reducible rfl
                          rotate_left
                          · simp only [Act.put, List.setIfInBounds_toArray, List.set_cons_zero, List.set_cons_succ, i64_w, i32_w]
                            rfl
                          refine take_ (i := 7) (N := some 131) (v := ?_) (a' := ?_) #[tR, tR, tR, tR, tR, tR, tR, tR, fA, fA, fA, fA, fA, fA, fA, fA, fA, fA, fA, fA, fA, fA] rfl rfl (take_ofW HT_.out HW_.out (by kernel_rfl)) (fun _ _ _ h => h) (Or.inl ⟨by rfl, ?_⟩) hHeld ?_ ?_
                          rotate_left
                          · rintro w' ⟨⟨s0, s0_c1, s0_c2, s0_c3, s0_c4, s0_c5, s0_c6⟩, ⟨s1, s1_c1, s1_c2, s1_c3, s1_c4, s1_c5, s1_c6⟩⟩
                            go_simp
                            with_reducible rfl
                          rotate_left
                          · simp only [Act.put, List.setIfInBounds_toArray, List.set_cons_zero, List.set_cons_succ, i64_w, i32_w]
                            rfl
                          refine one_ (i := 8) (N := some 132) #[tR, tR, tR, tR, tR, tR, tR, tR, tR, fA, fA, fA, fA, fA, fA, fA, fA, fA, fA, fA, fA, fA] rfl rfl (one_of HT_.out (by kernel_rfl)) (by decide) (fun K hK => ?_)
                          refine goes_ Try.func77 (by kernel_rfl) rfl #[.agg (sv t1412)] (by rfl) rfl rfl (by (try simp only [List.map_toArray, List.map_cons, List.map_nil]); first | done | rfl | (simp only [List.length_drop, List.length_take]; rfl)) ?_
                          with_reducible refine (scalar_Zero.calls kj125 t1412 t1456 _ A173.out).mono ?_
                          rintro e w216 ⟨rfl, hb⟩
                          refine ⟨_, rfl, ?_⟩
                          have n0_ := bkb BK1409 hb; have n1_ := bkb BK1410 hb; have n2_ := bkb BK1411 hb; have n3_ := bkb BK1414 hb; have n4_ := bkb BK1417 hb; have n5_ := bkb BK1420 hb; have n6_ := bkb BK1422 hb; have n7_ := bkb BK1424 hb; have n8_ := bkb BK1448 hb; have n9_ := bkb BK1450 hb; have n10_ := bel HB hb; clear BK1409; clear BK1410; clear BK1411; clear BK1414; clear BK1417; clear BK1420; clear BK1422; clear BK1424; clear BK1448; clear BK1450; clear HB; have BK1409 := n0_; have BK1410 := n1_; have BK1411 := n2_; have BK1414 := n3_; have BK1417 := n4_; have BK1420 := n5_; have BK1422 := n6_; have BK1424 := n7_; have BK1448 := n8_; have BK1450 := n9_; have HB := n10_; clear n0_ n1_ n2_ n3_ n4_ n5_ n6_ n7_ n8_ n9_ n10_; (try clear hb); (try clear hb2); (try clear hk); (try clear hi)
                          refine hK.out _ _ ⟨c7_of BK1448.out rfl, c7_of BK1414.out rfl⟩ (fun hHeld => ?_)
                          clear hK K
                          refine norm_ (a' := ?_) ?_ ?_
                          rotate_left
                          · show Act.put _ (some 132) _ = _
                            simp only [Act.put, List.setIfInBounds_toArray, List.set_cons_zero, List.set_cons_succ, i64_w, i32_w]
                            rfl
                          refine pure_ (i := 9) (N := some 133) (v := ?_) (a' := ?_) #[tR, tR, tR, tR, tR, tR, tR, tR, tR, tR, fA, fA, fA, fA, fA, fA, fA, fA, fA, fA, fA, fA] rfl rfl (any_of HT_.out (by kernel_rfl)) (fun _ _ _ h => h) (Or.inl ⟨by rfl, ?_⟩) ?_ ?_
                          rotate_left
                          · intro w'
                            go_simp
                            with_reducible rfl
                          rotate_left
                          · simp only [Act.put, List.setIfInBounds_toArray, List.set_cons_zero, List.set_cons_succ, i64_w, i32_w]
                            rfl
                          refine pure_ (i := 10) (N := some 134) (v := ?_) (a' := ?_) #[tR, tR, tR, tR, tR, tR, tR, tR, tR, tR, tR, fA, fA, fA, fA, fA, fA, fA, fA, fA, fA, fA] rfl rfl (any_of HT_.out (by kernel_rfl)) (fun _ _ _ h => h) (Or.inl ⟨by rfl, ?_⟩) ?_ ?_
                          rotate_left
                          · intro w'
                            go_simp
                            with_reducible rfl
                          rotate_left
                          · simp only [Act.put, List.setIfInBounds_toArray, List.set_cons_zero, List.set_cons_succ, i64_w, i32_w]
                            rfl
                          refine pure_ (i := 11) (N := some 135) (v := ?_) (a' := ?_) #[tR, tR, tR, tR, tR, tR, tR, tR, tR, tR, tR, tR, fA, fA, fA, fA, fA, fA, fA, fA, fA, fA] rfl rfl (any_of HT_.out (by kernel_rfl)) (fun _ _ _ h => h) (Or.inl ⟨by rfl, ?_⟩) ?_ ?_
                          rotate_left
                          · intro w'
                            go_simp
                            with_reducible rfl
                          rotate_left
                          · simp only [Act.put, List.setIfInBounds_toArray, List.set_cons_zero, List.set_cons_succ, i64_w, i32_w]
                            rfl
                          refine pure_ (i := 12) (N := some 136) (v := ?_) (a' := ?_) #[tR, tR, tR, tR, tR, tR, tR, tR, tR, tR, tR, tR, tR, fA, fA, fA, fA, fA, fA, fA, fA, fA] rfl rfl (any_of HT_.out (by kernel_rfl)) (fun _ _ _ h => h) (Or.inl ⟨by rfl, ?_⟩) ?_ ?_
                          rotate_left
                          · intro w'
                            go_simp
                            with_reducible rfl
                          rotate_left
                          · simp only [Act.put, List.setIfInBounds_toArray, List.set_cons_zero, List.set_cons_succ, i64_w, i32_w]
                            rfl
                          refine pure_ (i := 13) (N := some 137) (v := ?_) (a' := ?_) #[tR, tR, tR, tR, tR, tR, tR, tR, tR, tR, tR, tR, tR, tR, fA, fA, fA, fA, fA, fA, fA, fA] rfl rfl (any_of HT_.out (by kernel_rfl)) (fun _ _ _ h => h) (Or.inl ⟨by rfl, ?_⟩) ?_ ?_
                          rotate_left
                          · intro w'
                            go_simp
                            with_reducible rfl
                          rotate_left
                          · simp only [Act.put, List.setIfInBounds_toArray, List.set_cons_zero, List.set_cons_succ, i64_w, i32_w]
                            rfl
                          refine pure_ (i := 14) (N := some 138) (v := undef) (a' := ?_) #[tR, tR, tR, tR, tR, tR, tR, tR, tR, tR, tR, tR, tR, tR, tR, fA, fA, fA, fA, fA, fA, fA] rfl rfl (any_of HT_.out (by kernel_rfl)) (fun _ _ _ h => h) (Or.inr ⟨by rfl, rfl⟩) ?_ ?_
                          rotate_left
                          · simp only [Act.put, List.setIfInBounds_toArray, List.set_cons_zero, List.set_cons_succ, i64_w, i32_w]
                            rfl
                          refine pure_ (i := 15) (N := some 139) (v := undef) (a' := ?_) #[tR, tR, tR, tR, tR, tR, tR, tR, tR, tR, tR, tR, tR, tR, tR, tR, fA, fA, fA, fA, fA, fA] rfl rfl (any_of HT_.out (by kernel_rfl)) (fun _ _ _ h => h) (Or.inr ⟨by rfl, rfl⟩) ?_ ?_
                          rotate_left
                          · simp only [Act.put, List.setIfInBounds_toArray, List.set_cons_zero, List.set_cons_succ, i64_w, i32_w]
                            rfl
                          refine pure_ (i := 16) (N := some 140) (v := ?_) (a' := ?_) #[tR, tR, tR, tR, tR, tR, tR, tR, tR, tR, tR, tR, tR, tR, tR, tR, tR, fA, fA, fA, fA, fA] rfl rfl (any_of HT_.out (by kernel_rfl)) (fun _ _ _ h => h) (Or.inl ⟨by rfl, ?_⟩) ?_ ?_
                          rotate_left
                          · intro w'
                            go_simp
                            with_reducible rfl
                          rotate_left
                          · simp only [Act.put, List.setIfInBounds_toArray, List.set_cons_zero, List.set_cons_succ, i64_w, i32_w]
                            rfl
                          refine pure_ (i := 17) (N := some 141) (v := ?_) (a' := ?_) #[tR, tR, tR, tR, tR, tR, tR, tR, tR, tR, tR, tR, tR, tR, tR, tR, tR, tR, fA, fA, fA, fA] rfl rfl (any_of HT_.out (by kernel_rfl)) (fun _ _ _ h => h) (Or.inl ⟨by rfl, ?_⟩) ?_ ?_
                          rotate_left
                          · intro w'
                            go_simp
                            with_reducible rfl
                          rotate_left
                          · simp only [Act.put, List.setIfInBounds_toArray, List.set_cons_zero, List.set_cons_succ, i64_w, i32_w]
                            rfl
                          refine pure_ (i := 18) (N := some 142) (v := ?_) (a' := ?_) #[tR, tR, tR, tR, tR, tR, tR, tR, tR, tR, tR, tR, tR, tR, tR, tR, tR, tR, tR, fA, fA, fA] rfl rfl (any_of HT_.out (by kernel_rfl)) (fun _ _ _ h => h) (Or.inl ⟨by rfl, ?_⟩) ?_ ?_
                          rotate_left
                          · intro w'
                            go_simp
                            with_reducible rfl
                          rotate_left
                          · simp only [Act.put, List.setIfInBounds_toArray, List.set_cons_zero, List.set_cons_succ, i64_w, i32_w]
                            rfl
                          refine one_ (i := 19) (N := some 143) #[tR, tR, tR, tR, tR, tR, tR, tR, tR, tR, tR, tR, tR, tR, tR, tR, tR, tR, tR, tR, fA, fA] rfl rfl (one_of HT_.out (by kernel_rfl)) (by decide) (fun K hK => ?_)
                          refine goes_ Try.func71 (by kernel_rfl) rfl #[] (by rfl) rfl rfl (by (try simp only [List.map_toArray, List.map_cons, List.map_nil]); first | done | rfl | (simp only [List.length_drop, List.length_take]; rfl)) ?_
                          with_reducible refine (chicorylaw06_awake.calls kj125  true _ A176.out).mono ?_
                          rintro e w217 ⟨rfl, hb⟩
                          refine ⟨_, rfl, ?_⟩
                          have n0_ := bkb BK1409 hb; have n1_ := bkb BK1410 hb; have n2_ := bkb BK1411 hb; have n3_ := bkb BK1414 hb; have n4_ := bkb BK1417 hb; have n5_ := bkb BK1420 hb; have n6_ := bkb BK1422 hb; have n7_ := bkb BK1424 hb; have n8_ := bkb BK1448 hb; have n9_ := bkb BK1450 hb; have n10_ := bel HB hb; clear BK1409; clear BK1410; clear BK1411; clear BK1414; clear BK1417; clear BK1420; clear BK1422; clear BK1424; clear BK1448; clear BK1450; clear HB; have BK1409 := n0_; have BK1410 := n1_; have BK1411 := n2_; have BK1414 := n3_; have BK1417 := n4_; have BK1420 := n5_; have BK1422 := n6_; have BK1424 := n7_; have BK1448 := n8_; have BK1450 := n9_; have HB := n10_; clear n0_ n1_ n2_ n3_ n4_ n5_ n6_ n7_ n8_ n9_ n10_; (try clear hb); (try clear hb2); (try clear hk); (try clear hi)
                          refine hK.out _ _ ⟨c7_of BK1448.out rfl, c7_of BK1414.out rfl⟩ (fun hHeld => ?_)
                          clear hK K
                          refine norm_ (a' := ?_) ?_ ?_
                          rotate_left
                          · show Act.put _ (some 143) _ = _
                            simp only [Act.put, List.setIfInBounds_toArray, List.set_cons_zero, List.set_cons_succ, i64_w, i32_w]
                            rfl
                          refine pure_ (i := 20) (N := some 144) (v := ?_) (a' := ?_) #[tR, tR, tR, tR, tR, tR, tR, tR, tR, tR, tR, tR, tR, tR, tR, tR, tR, tR, tR, tR, tR, fA] rfl rfl (any_of HT_.out (by kernel_rfl)) (fun _ _ _ h => h) (Or.inl ⟨by rfl, ?_⟩) ?_ ?_
                          rotate_left
                          · intro w'
                            go_simp
                            with_reducible rfl
                          rotate_left
                          · simp only [Act.put, List.setIfInBounds_toArray, List.set_cons_zero, List.set_cons_succ, i64_w, i32_w]
                            rfl
                          refine pure_ (i := 21) (N := some 6) (v := ?_) (a' := ?_) #[tR, tR, tR, tR, tR, tR, tR, tR, tR, tR, tR, tR, tR, tR, tR, tR, tR, tR, tR, tR, tR, tR] rfl rfl (any_of HT_.out (by kernel_rfl)) (fun _ _ _ h => h) (Or.inl ⟨by rfl, ?_⟩) ?_ ?_
                          rotate_left
                          · intro w'
                            go_simp
                            with_reducible rfl
                          rotate_left
                          · simp only [Act.put, List.setIfInBounds_toArray, List.set_cons_zero, List.set_cons_succ, i64_w, i32_w]
                            rfl
                          refine done_ (done_of HT_.out (by kernel_rfl)) ?_
                          try go_wp2
                          go_ret
                          exact ⟨by first | rfl | (simp [errW_none, errW_some] <;> rfl) | (simp [*, errW_none, errW_some] <;> rfl), by repeat (first | (with_reducible first | exact HB.out | apply below_alloc | apply pw_below_drewN | apply below_drew1 | refine below_set ?_ GE1409.out | refine below_set ?_ GE1410.out | refine below_set ?_ GE1411.out | refine below_set ?_ GE1414.out | refine below_set ?_ GE1417.out | refine below_set ?_ GE1420.out | refine below_set ?_ GE1422.out | refine below_set ?_ GE1424.out | refine below_set ?_ GE1448.out | refine below_set ?_ GE1450.out) | exact HB.out)⟩
                        · replace c175 := Bool.eq_false_iff.mpr c175
                          subst c175
                          have H1 : ((scalar_Zero.f kj125 t1449).bind fun t1458 => (if t1458 = true then ((chicorylaw06_awake.f kj125).bind fun t1459 => (some t1459)) else (some false))) = some true := by rw [if_neg (show ¬ (false = true) by decide)] at H; exact H
                          clear H; have H := H1; clear H1
                          replace H := Option.bind_eq_some_iff.mp H
                          obtain ⟨t1458, A2180, H⟩ := H
                          replace H : (if t1458 = true then ((chicorylaw06_awake.f kj125).bind fun t1459 => (some t1459)) else (some false)) = some true := H
                          have A218 := Aside0.mk A2180
                          clear A2180
                          by_cases c219 : t1458 = true
                          · subst c219
                            have H1 : ((chicorylaw06_awake.f kj125).bind fun t1459 => (some t1459)) = some true := by rw [if_pos rfl] at H; exact H
                            clear H; have H := H1; clear H1
                            replace H := Option.bind_eq_some_iff.mp H
                            obtain ⟨t1459, A2200, H⟩ := H
                            replace H : (some t1459) = some true := H
                            have A220 := Aside0.mk A2200
                            clear A2200
                            obtain rfl := Option.some.inj H
                            have hnb221 := NB1414_1409.out
                            have hnc221 := NB1409_1414.out
                            have hnb222 := NB1414_1410.out
                            have hnc222 := NB1410_1414.out
                            have hnb223 := NB1414_1411.out
                            have hnc223 := NB1411_1414.out
                            have hnb224 := NB1414_1417.out
                            have hnc224 := NB1417_1414.out
                            have hnb225 := NB1414_1420.out
                            have hnc225 := NB1420_1414.out
                            have hnb226 := NB1414_1422.out
                            have hnc226 := NB1422_1414.out
                            have hnb227 := NB1414_1424.out
                            have hnc227 := NB1424_1414.out
                            obtain ⟨hcz228_0, hcz228_0_c1, hcz228_0_c2, hcz228_0_c3, hcz228_0_c4, hcz228_0_c5, hcz228_0_c6⟩ := c7_of (a := t1412) BK1414.out rfl
                            obtain ⟨hfz228_0, hfz228_0_c1, hfz228_0_c2, hfz228_0_c3, hfz228_0_c4, hfz228_0_c5, hfz228_0_c6⟩ := fz7 BK1414.out
                            try go_wp2_with (first | ((with_reducible refine gate_callee (f := 74) rfl ?_); refine goesL_ (some 116) rfl rfl Try.func74 (by kernel_rfl) rfl #[.agg (sv t1412)] rfl (by (try simp only [List.map_toArray, List.map_cons, List.map_nil]); first | done | rfl | (simp only [List.length_drop, List.length_take]; rfl)) ?_; (with_reducible refine (scalar_Half.calls kj125 t1412 t1447 _ A165.out).mono ?_); rintro e w229 ⟨rfl, hb⟩; refine ⟨_, rfl, ?_⟩; have n0_ := bkb BK1409 hb; have n1_ := bkb BK1410 hb; have n2_ := bkb BK1411 hb; have n3_ := bkb BK1414 hb; have n4_ := bkb BK1417 hb; have n5_ := bkb BK1420 hb; have n6_ := bkb BK1422 hb; have n7_ := bkb BK1424 hb; have n8_ := bel HB hb; clear BK1409; clear BK1410; clear BK1411; clear BK1414; clear BK1417; clear BK1420; clear BK1422; clear BK1424; clear HB; have BK1409 := n0_; have BK1410 := n1_; have BK1411 := n2_; have BK1414 := n3_; have BK1417 := n4_; have BK1420 := n5_; have BK1422 := n6_; have BK1424 := n7_; have HB := n8_; clear n0_ n1_ n2_ n3_ n4_ n5_ n6_ n7_ n8_; (try clear hb); (try clear hb2); (try clear hk); (try clear hi)) | ((with_reducible refine gate_dst (N := 15) rfl ?_); refine box_event ?hg (N := 15) ?hd (cs := zv) (t := 73) ?hr ?_; (case hd => rfl); (case hg => rfl); (case hr => first | (go_simp; done) | (go_simp; rfl)); intro gb1448 hg w230 hbox hb; have n0_ := bkb BK1409 hb; have n1_ := bkb BK1410 hb; have n2_ := bkb BK1411 hb; have n3_ := bkb BK1414 hb; have n4_ := bkb BK1417 hb; have n5_ := bkb BK1420 hb; have n6_ := bkb BK1422 hb; have n7_ := bkb BK1424 hb; have n8_ := bel HB hb; have n9_ := Aside0.mk (hbox); have n10_ := Aside0.mk ((by rw [hg]; exact (below_size HB.out) : w.heap.size ≤ gb1448)); have n11_ := Aside0.mk ((by rw [hg]; exact (below_size HB.out) : w.heap.size ≤ gb1448)); have n12_ := Aside0.mk ((by rw [hg]; exact Nat.ne_of_lt (blk_lt (g := gb1409) (o := .cells (rv a0_0) 70 (0, 0)) (by (with_reducible repeat (first | refine blk_drewN ?_ _ | refine blk_drew ?_ | refine blk_alloc ?_ _)); exact BK1409.out)) : gb1409 ≠ gb1448)); have n13_ := Aside0.mk ((by rw [hg]; exact Nat.ne_of_gt (blk_lt (g := gb1409) (o := .cells (rv a0_0) 70 (0, 0)) (by (with_reducible repeat (first | refine blk_drewN ?_ _ | refine blk_drew ?_ | refine blk_alloc ?_ _)); exact BK1409.out)) : gb1448 ≠ gb1409)); have n14_ := Aside0.mk ((by rw [hg]; exact Nat.ne_of_lt (blk_lt (g := gb1410) (o := .cells (rv a1_0) 70 (0, 0)) (by (with_reducible repeat (first | refine blk_drewN ?_ _ | refine blk_drew ?_ | refine blk_alloc ?_ _)); exact BK1410.out)) : gb1410 ≠ gb1448)); have n15_ := Aside0.mk ((by rw [hg]; exact Nat.ne_of_gt (blk_lt (g := gb1410) (o := .cells (rv a1_0) 70 (0, 0)) (by (with_reducible repeat (first | refine blk_drewN ?_ _ | refine blk_drew ?_ | refine blk_alloc ?_ _)); exact BK1410.out)) : gb1448 ≠ gb1410)); have n16_ := Aside0.mk ((by rw [hg]; exact Nat.ne_of_lt (blk_lt (g := gb1411) (o := .cells (rv a2_0) 70 (0, 0)) (by (with_reducible repeat (first | refine blk_drewN ?_ _ | refine blk_drew ?_ | refine blk_alloc ?_ _)); exact BK1411.out)) : gb1411 ≠ gb1448)); have n17_ := Aside0.mk ((by rw [hg]; exact Nat.ne_of_gt (blk_lt (g := gb1411) (o := .cells (rv a2_0) 70 (0, 0)) (by (with_reducible repeat (first | refine blk_drewN ?_ _ | refine blk_drew ?_ | refine blk_alloc ?_ _)); exact BK1411.out)) : gb1448 ≠ gb1411)); have n18_ := Aside0.mk ((by rw [hg]; exact Nat.ne_of_lt (blk_lt (g := gb1414) (o := .cells (sv t1412) 73 (0, 0)) (by (with_reducible repeat (first | refine blk_drewN ?_ _ | refine blk_drew ?_ | refine blk_alloc ?_ _)); exact BK1414.out)) : gb1414 ≠ gb1448)); have n19_ := Aside0.mk ((by rw [hg]; exact Nat.ne_of_gt (blk_lt (g := gb1414) (o := .cells (sv t1412) 73 (0, 0)) (by (with_reducible repeat (first | refine blk_drewN ?_ _ | refine blk_drew ?_ | refine blk_alloc ?_ _)); exact BK1414.out)) : gb1448 ≠ gb1414)); have n20_ := Aside0.mk ((by rw [hg]; exact Nat.ne_of_lt (blk_lt (g := gb1417) (o := .cells (sv t1415) 73 (0, 0)) (by (with_reducible repeat (first | refine blk_drewN ?_ _ | refine blk_drew ?_ | refine blk_alloc ?_ _)); exact BK1417.out)) : gb1417 ≠ gb1448)); have n21_ := Aside0.mk ((by rw [hg]; exact Nat.ne_of_gt (blk_lt (g := gb1417) (o := .cells (sv t1415) 73 (0, 0)) (by (with_reducible repeat (first | refine blk_drewN ?_ _ | refine blk_drew ?_ | refine blk_alloc ?_ _)); exact BK1417.out)) : gb1448 ≠ gb1417)); have n22_ := Aside0.mk ((by rw [hg]; exact Nat.ne_of_lt (blk_lt (g := gb1420) (o := .cells (sv t1418) 73 (0, 0)) (by (with_reducible repeat (first | refine blk_drewN ?_ _ | refine blk_drew ?_ | refine blk_alloc ?_ _)); exact BK1420.out)) : gb1420 ≠ gb1448)); have n23_ := Aside0.mk ((by rw [hg]; exact Nat.ne_of_gt (blk_lt (g := gb1420) (o := .cells (sv t1418) 73 (0, 0)) (by (with_reducible repeat (first | refine blk_drewN ?_ _ | refine blk_drew ?_ | refine blk_alloc ?_ _)); exact BK1420.out)) : gb1448 ≠ gb1420)); have n24_ := Aside0.mk ((by rw [hg]; exact Nat.ne_of_lt (blk_lt (g := gb1422) (o := .cells (sv t1421) 73 (0, 0)) (by (with_reducible repeat (first | refine blk_drewN ?_ _ | refine blk_drew ?_ | refine blk_alloc ?_ _)); exact BK1422.out)) : gb1422 ≠ gb1448)); have n25_ := Aside0.mk ((by rw [hg]; exact Nat.ne_of_gt (blk_lt (g := gb1422) (o := .cells (sv t1421) 73 (0, 0)) (by (with_reducible repeat (first | refine blk_drewN ?_ _ | refine blk_drew ?_ | refine blk_alloc ?_ _)); exact BK1422.out)) : gb1448 ≠ gb1422)); have n26_ := Aside0.mk ((by rw [hg]; exact Nat.ne_of_lt (blk_lt (g := gb1424) (o := .cells (sv t1423) 73 (0, 0)) (by (with_reducible repeat (first | refine blk_drewN ?_ _ | refine blk_drew ?_ | refine blk_alloc ?_ _)); exact BK1424.out)) : gb1424 ≠ gb1448)); have n27_ := Aside0.mk ((by rw [hg]; exact Nat.ne_of_gt (blk_lt (g := gb1424) (o := .cells (sv t1423) 73 (0, 0)) (by (with_reducible repeat (first | refine blk_drewN ?_ _ | refine blk_drew ?_ | refine blk_alloc ?_ _)); exact BK1424.out)) : gb1448 ≠ gb1424)); clear BK1409; clear BK1410; clear BK1411; clear BK1414; clear BK1417; clear BK1420; clear BK1422; clear BK1424; clear HB; have BK1409 := n0_; have BK1410 := n1_; have BK1411 := n2_; have BK1414 := n3_; have BK1417 := n4_; have BK1420 := n5_; have BK1422 := n6_; have BK1424 := n7_; have HB := n8_; have BK1448 := n9_; have GW1448 := n10_; have GE1448 := n11_; have NB1409_1448 := n12_; have NB1448_1409 := n13_; have NB1410_1448 := n14_; have NB1448_1410 := n15_; have NB1411_1448 := n16_; have NB1448_1411 := n17_; have NB1414_1448 := n18_; have NB1448_1414 := n19_; have NB1417_1448 := n20_; have NB1448_1417 := n21_; have NB1420_1448 := n22_; have NB1448_1420 := n23_; have NB1422_1448 := n24_; have NB1448_1422 := n25_; have NB1424_1448 := n26_; have NB1448_1424 := n27_; clear n0_ n1_ n2_ n3_ n4_ n5_ n6_ n7_ n8_ n9_ n10_ n11_ n12_ n13_ n14_ n15_ n16_ n17_ n18_ n19_ n20_ n21_ n22_ n23_ n24_ n25_ n26_ n27_; clear hb hbox hg; have hnb231 := NB1448_1409.out; have hnc231 := NB1409_1448.out; have hnb232 := NB1448_1410.out; have hnc232 := NB1410_1448.out; have hnb233 := NB1448_1411.out; have hnc233 := NB1411_1448.out; have hnb234 := NB1448_1414.out; have hnc234 := NB1414_1448.out; have hnb235 := NB1448_1417.out; have hnc235 := NB1417_1448.out; have hnb236 := NB1448_1420.out; have hnc236 := NB1420_1448.out; have hnb237 := NB1448_1422.out; have hnc237 := NB1422_1448.out; have hnb238 := NB1448_1424.out; have hnc238 := NB1424_1448.out; obtain ⟨hcz239_0, hcz239_0_c1, hcz239_0_c2, hcz239_0_c3, hcz239_0_c4, hcz239_0_c5, hcz239_0_c6⟩ := c7_of (a := z7) BK1448.out rfl; obtain ⟨hfz239_0, hfz239_0_c1, hfz239_0_c2, hfz239_0_c3, hfz239_0_c4, hfz239_0_c5, hfz239_0_c6⟩ := fz7 BK1448.out; obtain ⟨hcz240_0, hcz240_0_c1, hcz240_0_c2, hcz240_0_c3, hcz240_0_c4, hcz240_0_c5, hcz240_0_c6⟩ := c7_of (a := t1412) BK1414.out rfl; obtain ⟨hfz240_0, hfz240_0_c1, hfz240_0_c2, hfz240_0_c3, hfz240_0_c4, hfz240_0_c5, hfz240_0_c6⟩ := fz7 BK1414.out) | ((with_reducible refine gate_callee (f := 81) rfl ?_); refine goesL_ (some 118) rfl rfl Try.func81 (by kernel_rfl) rfl #[.agg (sv t1412)] rfl (by (try simp only [List.map_toArray, List.map_cons, List.map_nil]); first | done | rfl | (simp only [List.length_drop, List.length_take]; rfl)) ?_; (with_reducible refine (scalar_Inverse.calls kj125 t1412 t1449 _ A166.out).mono ?_); rintro e w241 ⟨rfl, hb⟩; refine ⟨_, rfl, ?_⟩; have n0_ := Aside0.mk (blk_below (g := gb1409) (o := .cells (rv a0_0) 70 (0, 0)) (by (with_reducible repeat (first | refine blk_drewN ?_ _ | refine blk_drew ?_ | refine blk_alloc ?_ _)); refine blk_far7 ?_ NB1409_1448.out; (with_reducible repeat (first | refine blk_drewN ?_ _ | refine blk_drew ?_ | refine blk_alloc ?_ _)); exact BK1409.out) hb); have n1_ := Aside0.mk (blk_below (g := gb1410) (o := .cells (rv a1_0) 70 (0, 0)) (by (with_reducible repeat (first | refine blk_drewN ?_ _ | refine blk_drew ?_ | refine blk_alloc ?_ _)); refine blk_far7 ?_ NB1410_1448.out; (with_reducible repeat (first | refine blk_drewN ?_ _ | refine blk_drew ?_ | refine blk_alloc ?_ _)); exact BK1410.out) hb); have n2_ := Aside0.mk (blk_below (g := gb1411) (o := .cells (rv a2_0) 70 (0, 0)) (by (with_reducible repeat (first | refine blk_drewN ?_ _ | refine blk_drew ?_ | refine blk_alloc ?_ _)); refine blk_far7 ?_ NB1411_1448.out; (with_reducible repeat (first | refine blk_drewN ?_ _ | refine blk_drew ?_ | refine blk_alloc ?_ _)); exact BK1411.out) hb); have n3_ := Aside0.mk (blk_below (g := gb1414) (o := .cells (sv t1412) 73 (0, 0)) (by (with_reducible repeat (first | refine blk_drewN ?_ _ | refine blk_drew ?_ | refine blk_alloc ?_ _)); refine blk_far7 ?_ NB1414_1448.out; (with_reducible repeat (first | refine blk_drewN ?_ _ | refine blk_drew ?_ | refine blk_alloc ?_ _)); exact BK1414.out) hb); have n4_ := Aside0.mk (blk_below (g := gb1417) (o := .cells (sv t1415) 73 (0, 0)) (by (with_reducible repeat (first | refine blk_drewN ?_ _ | refine blk_drew ?_ | refine blk_alloc ?_ _)); refine blk_far7 ?_ NB1417_1448.out; (with_reducible repeat (first | refine blk_drewN ?_ _ | refine blk_drew ?_ | refine blk_alloc ?_ _)); exact BK1417.out) hb); have n5_ := Aside0.mk (blk_below (g := gb1420) (o := .cells (sv t1418) 73 (0, 0)) (by (with_reducible repeat (first | refine blk_drewN ?_ _ | refine blk_drew ?_ | refine blk_alloc ?_ _)); refine blk_far7 ?_ NB1420_1448.out; (with_reducible repeat (first | refine blk_drewN ?_ _ | refine blk_drew ?_ | refine blk_alloc ?_ _)); exact BK1420.out) hb); have n6_ := Aside0.mk (blk_below (g := gb1422) (o := .cells (sv t1421) 73 (0, 0)) (by (with_reducible repeat (first | refine blk_drewN ?_ _ | refine blk_drew ?_ | refine blk_alloc ?_ _)); refine blk_far7 ?_ NB1422_1448.out; (with_reducible repeat (first | refine blk_drewN ?_ _ | refine blk_drew ?_ | refine blk_alloc ?_ _)); exact BK1422.out) hb); have n7_ := Aside0.mk (blk_below (g := gb1424) (o := .cells (sv t1423) 73 (0, 0)) (by (with_reducible repeat (first | refine blk_drewN ?_ _ | refine blk_drew ?_ | refine blk_alloc ?_ _)); refine blk_far7 ?_ NB1424_1448.out; (with_reducible repeat (first | refine blk_drewN ?_ _ | refine blk_drew ?_ | refine blk_alloc ?_ _)); exact BK1424.out) hb); have n8_ := Aside0.mk (blk_below (g := gb1448) (o := .cells (sv t1447) 73 (0, 0)) (by (with_reducible repeat (first | refine blk_drewN ?_ _ | refine blk_drew ?_ | refine blk_alloc ?_ _)); refine blk_put7z ?_; (with_reducible repeat (first | refine blk_drewN ?_ _ | refine blk_drew ?_ | refine blk_alloc ?_ _)); exact BK1448.out) hb); have n9_ := Aside0.mk (below_step (by repeat (first | (with_reducible first | exact HB.out | apply below_alloc | apply pw_below_drewN | apply below_drew1 | refine below_set ?_ GE1409.out | refine below_set ?_ GE1410.out | refine below_set ?_ GE1411.out | refine below_set ?_ GE1414.out | refine below_set ?_ GE1417.out | refine below_set ?_ GE1420.out | refine below_set ?_ GE1422.out | refine below_set ?_ GE1424.out | refine below_set ?_ GE1448.out) | exact HB.out)) hb); clear BK1409; clear BK1410; clear BK1411; clear BK1414; clear BK1417; clear BK1420; clear BK1422; clear BK1424; clear BK1448; clear HB; have BK1409 := n0_; have BK1410 := n1_; have BK1411 := n2_; have BK1414 := n3_; have BK1417 := n4_; have BK1420 := n5_; have BK1422 := n6_; have BK1424 := n7_; have BK1448 := n8_; have HB := n9_; clear n0_ n1_ n2_ n3_ n4_ n5_ n6_ n7_ n8_ n9_; (try clear hb); (try clear hb2); (try clear hk); (try clear hi)) | ((with_reducible refine gate_dst (N := 16) rfl ?_); refine box_event ?hg (N := 16) ?hd (cs := zv) (t := 73) ?hr ?_; (case hd => rfl); (case hg => rfl); (case hr => first | (go_simp; done) | (go_simp; rfl)); intro gb1450 hg w242 hbox hb; have n0_ := bkb BK1409 hb; have n1_ := bkb BK1410 hb; have n2_ := bkb BK1411 hb; have n3_ := bkb BK1414 hb; have n4_ := bkb BK1417 hb; have n5_ := bkb BK1420 hb; have n6_ := bkb BK1422 hb; have n7_ := bkb BK1424 hb; have n8_ := bkb BK1448 hb; have n9_ := bel HB hb; have n10_ := Aside0.mk (hbox); have n11_ := Aside0.mk ((by rw [hg]; exact (below_size HB.out) : w.heap.size ≤ gb1450)); have n12_ := Aside0.mk ((by rw [hg]; exact (below_size HB.out) : w.heap.size ≤ gb1450)); have n13_ := Aside0.mk ((by rw [hg]; exact Nat.ne_of_lt (blk_lt (g := gb1409) (o := .cells (rv a0_0) 70 (0, 0)) (by (with_reducible repeat (first | refine blk_drewN ?_ _ | refine blk_drew ?_ | refine blk_alloc ?_ _)); exact BK1409.out)) : gb1409 ≠ gb1450)); have n14_ := Aside0.mk ((by rw [hg]; exact Nat.ne_of_gt (blk_lt (g := gb1409) (o := .cells (rv a0_0) 70 (0, 0)) (by (with_reducible repeat (first | refine blk_drewN ?_ _ | refine blk_drew ?_ | refine blk_alloc ?_ _)); exact BK1409.out)) : gb1450 ≠ gb1409)); have n15_ := Aside0.mk ((by rw [hg]; exact Nat.ne_of_lt (blk_lt (g := gb1410) (o := .cells (rv a1_0) 70 (0, 0)) (by (with_reducible repeat (first | refine blk_drewN ?_ _ | refine blk_drew ?_ | refine blk_alloc ?_ _)); exact BK1410.out)) : gb1410 ≠ gb1450)); have n16_ := Aside0.mk ((by rw [hg]; exact Nat.ne_of_gt (blk_lt (g := gb1410) (o := .cells (rv a1_0) 70 (0, 0)) (by (with_reducible repeat (first | refine blk_drewN ?_ _ | refine blk_drew ?_ | refine blk_alloc ?_ _)); exact BK1410.out)) : gb1450 ≠ gb1410)); have n17_ := Aside0.mk ((by rw [hg]; exact Nat.ne_of_lt (blk_lt (g := gb1411) (o := .cells (rv a2_0) 70 (0, 0)) (by (with_reducible repeat (first | refine blk_drewN ?_ _ | refine blk_drew ?_ | refine blk_alloc ?_ _)); exact BK1411.out)) : gb1411 ≠ gb1450)); have n18_ := Aside0.mk ((by rw [hg]; exact Nat.ne_of_gt (blk_lt (g := gb1411) (o := .cells (rv a2_0) 70 (0, 0)) (by (with_reducible repeat (first | refine blk_drewN ?_ _ | refine blk_drew ?_ | refine blk_alloc ?_ _)); exact BK1411.out)) : gb1450 ≠ gb1411)); have n19_ := Aside0.mk ((by rw [hg]; exact Nat.ne_of_lt (blk_lt (g := gb1414) (o := .cells (sv t1412) 73 (0, 0)) (by (with_reducible repeat (first | refine blk_drewN ?_ _ | refine blk_drew ?_ | refine blk_alloc ?_ _)); exact BK1414.out)) : gb1414 ≠ gb1450)); have n20_ := Aside0.mk ((by rw [hg]; exact Nat.ne_of_gt (blk_lt (g := gb1414) (o := .cells (sv t1412) 73 (0, 0)) (by (with_reducible repeat (first | refine blk_drewN ?_ _ | refine blk_drew ?_ | refine blk_alloc ?_ _)); exact BK1414.out)) : gb1450 ≠ gb1414)); have n21_ := Aside0.mk ((by rw [hg]; exact Nat.ne_of_lt (blk_lt (g := gb1417) (o := .cells (sv t1415) 73 (0, 0)) (by (with_reducible repeat (first | refine blk_drewN ?_ _ | refine blk_drew ?_ | refine blk_alloc ?_ _)); exact BK1417.out)) : gb1417 ≠ gb1450)); have n22_ := Aside0.mk ((by rw [hg]; exact Nat.ne_of_gt (blk_lt (g := gb1417) (o := .cells (sv t1415) 73 (0, 0)) (by (with_reducible repeat (first | refine blk_drewN ?_ _ | refine blk_drew ?_ | refine blk_alloc ?_ _)); exact BK1417.out)) : gb1450 ≠ gb1417)); have n23_ := Aside0.mk ((by rw [hg]; exact Nat.ne_of_lt (blk_lt (g := gb1420) (o := .cells (sv t1418) 73 (0, 0)) (by (with_reducible repeat (first | refine blk_drewN ?_ _ | refine blk_drew ?_ | refine blk_alloc ?_ _)); exact BK1420.out)) : gb1420 ≠ gb1450)); have n24_ := Aside0.mk ((by rw [hg]; exact Nat.ne_of_gt (blk_lt (g := gb1420) (o := .cells (sv t1418) 73 (0, 0)) (by (with_reducible repeat (first | refine blk_drewN ?_ _ | refine blk_drew ?_ | refine blk_alloc ?_ _)); exact BK1420.out)) : gb1450 ≠ gb1420)); have n25_ := Aside0.mk ((by rw [hg]; exact Nat.ne_of_lt (blk_lt (g := gb1422) (o := .cells (sv t1421) 73 (0, 0)) (by (with_reducible repeat (first | refine blk_drewN ?_ _ | refine blk_drew ?_ | refine blk_alloc ?_ _)); exact BK1422.out)) : gb1422 ≠ gb1450)); have n26_ := Aside0.mk ((by rw [hg]; exact Nat.ne_of_gt (blk_lt (g := gb1422) (o := .cells (sv t1421) 73 (0, 0)) (by (with_reducible repeat (first | refine blk_drewN ?_ _ | refine blk_drew ?_ | refine blk_alloc ?_ _)); exact BK1422.out)) : gb1450 ≠ gb1422)); have n27_ := Aside0.mk ((by rw [hg]; exact Nat.ne_of_lt (blk_lt (g := gb1424) (o := .cells (sv t1423) 73 (0, 0)) (by (with_reducible repeat (first | refine blk_drewN ?_ _ | refine blk_drew ?_ | refine blk_alloc ?_ _)); exact BK1424.out)) : gb1424 ≠ gb1450)); have n28_ := Aside0.mk ((by rw [hg]; exact Nat.ne_of_gt (blk_lt (g := gb1424) (o := .cells (sv t1423) 73 (0, 0)) (by (with_reducible repeat (first | refine blk_drewN ?_ _ | refine blk_drew ?_ | refine blk_alloc ?_ _)); exact BK1424.out)) : gb1450 ≠ gb1424)); have n29_ := Aside0.mk ((by rw [hg]; exact Nat.ne_of_lt (blk_lt (g := gb1448) (o := .cells (sv t1447) 73 (0, 0)) (by (with_reducible repeat (first | refine blk_drewN ?_ _ | refine blk_drew ?_ | refine blk_alloc ?_ _)); exact BK1448.out)) : gb1448 ≠ gb1450)); have n30_ := Aside0.mk ((by rw [hg]; exact Nat.ne_of_gt (blk_lt (g := gb1448) (o := .cells (sv t1447) 73 (0, 0)) (by (with_reducible repeat (first | refine blk_drewN ?_ _ | refine blk_drew ?_ | refine blk_alloc ?_ _)); exact BK1448.out)) : gb1450 ≠ gb1448)); clear BK1409; clear BK1410; clear BK1411; clear BK1414; clear BK1417; clear BK1420; clear BK1422; clear BK1424; clear BK1448; clear HB; have BK1409 := n0_; have BK1410 := n1_; have BK1411 := n2_; have BK1414 := n3_; have BK1417 := n4_; have BK1420 := n5_; have BK1422 := n6_; have BK1424 := n7_; have BK1448 := n8_; have HB := n9_; have BK1450 := n10_; have GW1450 := n11_; have GE1450 := n12_; have NB1409_1450 := n13_; have NB1450_1409 := n14_; have NB1410_1450 := n15_; have NB1450_1410 := n16_; have NB1411_1450 := n17_; have NB1450_1411 := n18_; have NB1414_1450 := n19_; have NB1450_1414 := n20_; have NB1417_1450 := n21_; have NB1450_1417 := n22_; have NB1420_1450 := n23_; have NB1450_1420 := n24_; have NB1422_1450 := n25_; have NB1450_1422 := n26_; have NB1424_1450 := n27_; have NB1450_1424 := n28_; have NB1448_1450 := n29_; have NB1450_1448 := n30_; clear n0_ n1_ n2_ n3_ n4_ n5_ n6_ n7_ n8_ n9_ n10_ n11_ n12_ n13_ n14_ n15_ n16_ n17_ n18_ n19_ n20_ n21_ n22_ n23_ n24_ n25_ n26_ n27_ n28_ n29_ n30_; clear hb hbox hg; have hnb243 := NB1450_1409.out; have hnc243 := NB1409_1450.out; have hnb244 := NB1450_1410.out; have hnc244 := NB1410_1450.out; have hnb245 := NB1450_1411.out; have hnc245 := NB1411_1450.out; have hnb246 := NB1450_1414.out; have hnc246 := NB1414_1450.out; have hnb247 := NB1450_1417.out; have hnc247 := NB1417_1450.out; have hnb248 := NB1450_1420.out; have hnc248 := NB1420_1450.out; have hnb249 := NB1450_1422.out; have hnc249 := NB1422_1450.out; have hnb250 := NB1450_1424.out; have hnc250 := NB1424_1450.out; have hnb251 := NB1450_1448.out; have hnc251 := NB1448_1450.out; obtain ⟨hcz252_0, hcz252_0_c1, hcz252_0_c2, hcz252_0_c3, hcz252_0_c4, hcz252_0_c5, hcz252_0_c6⟩ := c7_of (a := z7) BK1450.out rfl; obtain ⟨hfz252_0, hfz252_0_c1, hfz252_0_c2, hfz252_0_c3, hfz252_0_c4, hfz252_0_c5, hfz252_0_c6⟩ := fz7 BK1450.out; obtain ⟨hcz253_0, hcz253_0_c1, hcz253_0_c2, hcz253_0_c3, hcz253_0_c4, hcz253_0_c5, hcz253_0_c6⟩ := c7_of (a := t1412) BK1414.out rfl; obtain ⟨hfz253_0, hfz253_0_c1, hfz253_0_c2, hfz253_0_c3, hfz253_0_c4, hfz253_0_c5, hfz253_0_c6⟩ := fz7 BK1414.out) | ((with_reducible refine gate_callee (f := 72) rfl ?_); refine goesL_ (some 121) rfl rfl Try.func72 (by kernel_rfl) rfl #[.agg (sv t1412), .agg (sv t1449)] rfl (by (try simp only [List.map_toArray, List.map_cons, List.map_nil]); first | done | rfl | (simp only [List.length_drop, List.length_take]; rfl)) ?_; (with_reducible refine (scalar_Mul.calls kj125 t1412 t1449 t1451 _ A167.out).mono ?_); rintro e w254 ⟨rfl, hb⟩; refine ⟨_, rfl, ?_⟩; have n0_ := Aside0.mk (blk_below (g := gb1409) (o := .cells (rv a0_0) 70 (0, 0)) (by (with_reducible repeat (first | refine blk_drewN ?_ _ | refine blk_drew ?_ | refine blk_alloc ?_ _)); refine blk_far7 ?_ NB1409_1450.out; (with_reducible repeat (first | refine blk_drewN ?_ _ | refine blk_drew ?_ | refine blk_alloc ?_ _)); exact BK1409.out) hb); have n1_ := Aside0.mk (blk_below (g := gb1410) (o := .cells (rv a1_0) 70 (0, 0)) (by (with_reducible repeat (first | refine blk_drewN ?_ _ | refine blk_drew ?_ | refine blk_alloc ?_ _)); refine blk_far7 ?_ NB1410_1450.out; (with_reducible repeat (first | refine blk_drewN ?_ _ | refine blk_drew ?_ | refine blk_alloc ?_ _)); exact BK1410.out) hb); have n2_ := Aside0.mk (blk_below (g := gb1411) (o := .cells (rv a2_0) 70 (0, 0)) (by (with_reducible repeat (first | refine blk_drewN ?_ _ | refine blk_drew ?_ | refine blk_alloc ?_ _)); refine blk_far7 ?_ NB1411_1450.out; (with_reducible repeat (first | refine blk_drewN ?_ _ | refine blk_drew ?_ | refine blk_alloc ?_ _)); exact BK1411.out) hb); have n3_ := Aside0.mk (blk_below (g := gb1414) (o := .cells (sv t1412) 73 (0, 0)) (by (with_reducible repeat (first | refine blk_drewN ?_ _ | refine blk_drew ?_ | refine blk_alloc ?_ _)); refine blk_far7 ?_ NB1414_1450.out; (with_reducible repeat (first | refine blk_drewN ?_ _ | refine blk_drew ?_ | refine blk_alloc ?_ _)); exact BK1414.out) hb); have n4_ := Aside0.mk (blk_below (g := gb1417) (o := .cells (sv t1415) 73 (0, 0)) (by (with_reducible repeat (first | refine blk_drewN ?_ _ | refine blk_drew ?_ | refine blk_alloc ?_ _)); refine blk_far7 ?_ NB1417_1450.out; (with_reducible repeat (first | refine blk_drewN ?_ _ | refine blk_drew ?_ | refine blk_alloc ?_ _)); exact BK1417.out) hb); have n5_ := Aside0.mk (blk_below (g := gb1420) (o := .cells (sv t1418) 73 (0, 0)) (by (with_reducible repeat (first | refine blk_drewN ?_ _ | refine blk_drew ?_ | refine blk_alloc ?_ _)); refine blk_far7 ?_ NB1420_1450.out; (with_reducible repeat (first | refine blk_drewN ?_ _ | refine blk_drew ?_ | refine blk_alloc ?_ _)); exact BK1420.out) hb); have n6_ := Aside0.mk (blk_below (g := gb1422) (o := .cells (sv t1421) 73 (0, 0)) (by (with_reducible repeat (first | refine blk_drewN ?_ _ | refine blk_drew ?_ | refine blk_alloc ?_ _)); refine blk_far7 ?_ NB1422_1450.out; (with_reducible repeat (first | refine blk_drewN ?_ _ | refine blk_drew ?_ | refine blk_alloc ?_ _)); exact BK1422.out) hb); have n7_ := Aside0.mk (blk_below (g := gb1424) (o := .cells (sv t1423) 73 (0, 0)) (by (with_reducible repeat (first | refine blk_drewN ?_ _ | refine blk_drew ?_ | refine blk_alloc ?_ _)); refine blk_far7 ?_ NB1424_1450.out; (with_reducible repeat (first | refine blk_drewN ?_ _ | refine blk_drew ?_ | refine blk_alloc ?_ _)); exact BK1424.out) hb); have n8_ := Aside0.mk (blk_below (g := gb1448) (o := .cells (sv t1447) 73 (0, 0)) (by (with_reducible repeat (first | refine blk_drewN ?_ _ | refine blk_drew ?_ | refine blk_alloc ?_ _)); refine blk_far7 ?_ NB1448_1450.out; (with_reducible repeat (first | refine blk_drewN ?_ _ | refine blk_drew ?_ | refine blk_alloc ?_ _)); exact BK1448.out) hb); have n9_ := Aside0.mk (blk_below (g := gb1450) (o := .cells (sv t1449) 73 (0, 0)) (by (with_reducible repeat (first | refine blk_drewN ?_ _ | refine blk_drew ?_ | refine blk_alloc ?_ _)); refine blk_put7z ?_; (with_reducible repeat (first | refine blk_drewN ?_ _ | refine blk_drew ?_ | refine blk_alloc ?_ _)); exact BK1450.out) hb); have n10_ := Aside0.mk (below_step (by repeat (first | (with_reducible first | exact HB.out | apply below_alloc | apply pw_below_drewN | apply below_drew1 | refine below_set ?_ GE1409.out | refine below_set ?_ GE1410.out | refine below_set ?_ GE1411.out | refine below_set ?_ GE1414.out | refine below_set ?_ GE1417.out | refine below_set ?_ GE1420.out | refine below_set ?_ GE1422.out | refine below_set ?_ GE1424.out | refine below_set ?_ GE1448.out | refine below_set ?_ GE1450.out) | exact HB.out)) hb); clear BK1409; clear BK1410; clear BK1411; clear BK1414; clear BK1417; clear BK1420; clear BK1422; clear BK1424; clear BK1448; clear BK1450; clear HB; have BK1409 := n0_; have BK1410 := n1_; have BK1411 := n2_; have BK1414 := n3_; have BK1417 := n4_; have BK1420 := n5_; have BK1422 := n6_; have BK1424 := n7_; have BK1448 := n8_; have BK1450 := n9_; have HB := n10_; clear n0_ n1_ n2_ n3_ n4_ n5_ n6_ n7_ n8_ n9_ n10_; (try clear hb); (try clear hb2); (try clear hk); (try clear hi)) | ((with_reducible refine gate_callee (f := 69) rfl ?_); refine goesL_ (some 122) rfl rfl Try.func69 (by kernel_rfl) rfl #[.int .i64 1] rfl (by (try simp only [List.map_toArray, List.map_cons, List.map_nil]); first | done | rfl | (simp only [List.length_drop, List.length_take]; rfl)) ?_; (with_reducible refine (scalar_Int.calls kj125 1 t1452 _ A168.out).mono ?_); rintro e w255 ⟨rfl, hb⟩; refine ⟨_, rfl, ?_⟩; have n0_ := bkb BK1409 hb; have n1_ := bkb BK1410 hb; have n2_ := bkb BK1411 hb; have n3_ := bkb BK1414 hb; have n4_ := bkb BK1417 hb; have n5_ := bkb BK1420 hb; have n6_ := bkb BK1422 hb; have n7_ := bkb BK1424 hb; have n8_ := bkb BK1448 hb; have n9_ := bkb BK1450 hb; have n10_ := bel HB hb; clear BK1409; clear BK1410; clear BK1411; clear BK1414; clear BK1417; clear BK1420; clear BK1422; clear BK1424; clear BK1448; clear BK1450; clear HB; have BK1409 := n0_; have BK1410 := n1_; have BK1411 := n2_; have BK1414 := n3_; have BK1417 := n4_; have BK1420 := n5_; have BK1422 := n6_; have BK1424 := n7_; have BK1448 := n8_; have BK1450 := n9_; have HB := n10_; clear n0_ n1_ n2_ n3_ n4_ n5_ n6_ n7_ n8_ n9_ n10_; (try clear hb); (try clear hb2); (try clear hk); (try clear hi)) | ((with_reducible refine gate_callee (f := 76) rfl ?_); refine goesL_ (some 123) rfl rfl Try.func76 (by kernel_rfl) rfl #[.agg (sv t1451), .agg (sv t1452)] rfl (by (try simp only [List.map_toArray, List.map_cons, List.map_nil]); first | done | rfl | (simp only [List.length_drop, List.length_take]; rfl)) ?_; (with_reducible refine (scalar_Equal.calls kj125 t1451 t1452 false _ A169.out).mono ?_); rintro e w256 ⟨rfl, hb⟩; refine ⟨_, rfl, ?_⟩; have n0_ := bkb BK1409 hb; have n1_ := bkb BK1410 hb; have n2_ := bkb BK1411 hb; have n3_ := bkb BK1414 hb; have n4_ := bkb BK1417 hb; have n5_ := bkb BK1420 hb; have n6_ := bkb BK1422 hb; have n7_ := bkb BK1424 hb; have n8_ := bkb BK1448 hb; have n9_ := bkb BK1450 hb; have n10_ := bel HB hb; clear BK1409; clear BK1410; clear BK1411; clear BK1414; clear BK1417; clear BK1420; clear BK1422; clear BK1424; clear BK1448; clear BK1450; clear HB; have BK1409 := n0_; have BK1410 := n1_; have BK1411 := n2_; have BK1414 := n3_; have BK1417 := n4_; have BK1420 := n5_; have BK1422 := n6_; have BK1424 := n7_; have BK1448 := n8_; have BK1450 := n9_; have HB := n10_; clear n0_ n1_ n2_ n3_ n4_ n5_ n6_ n7_ n8_ n9_ n10_; (try clear hb); (try clear hb2); (try clear hk); (try clear hi)))
                            have n0_ := Aside0.mk (blk_drew BK1409.out)
                            have n1_ := Aside0.mk (blk_drew BK1410.out)
                            have n2_ := Aside0.mk (blk_drew BK1411.out)
                            have n3_ := Aside0.mk (blk_drew BK1414.out)
                            have n4_ := Aside0.mk (blk_drew BK1417.out)
                            have n5_ := Aside0.mk (blk_drew BK1420.out)
                            have n6_ := Aside0.mk (blk_drew BK1422.out)
                            have n7_ := Aside0.mk (blk_drew BK1424.out)
                            have n8_ := Aside0.mk (blk_drew BK1448.out)
                            have n9_ := Aside0.mk (blk_drew BK1450.out)
                            have n10_ := Aside0.mk (below_drew1 HB.out)
                            clear BK1409; clear BK1410; clear BK1411; clear BK1414; clear BK1417; clear BK1420; clear BK1422; clear BK1424; clear BK1448; clear BK1450; clear HB; have BK1409 := n0_; have BK1410 := n1_; have BK1411 := n2_; have BK1414 := n3_; have BK1417 := n4_; have BK1420 := n5_; have BK1422 := n6_; have BK1424 := n7_; have BK1448 := n8_; have BK1450 := n9_; have HB := n10_; clear n0_ n1_ n2_ n3_ n4_ n5_ n6_ n7_ n8_ n9_ n10_
                            refine start_ (n := 22) (S := fun w' => c7 w' gb1448 t1447 ∧ c7 w' gb1414 t1412 ∧ c7 w' gb1450 t1449) (ds := []) #[fA, fA, fA, fA, fA, fA, fA, fA, fA, fA, fA, fA, fA, fA, fA, fA, fA, fA, fA, fA, fA, fA] (by kernel_rfl) rfl rfl ⟨c7_of BK1448.out rfl, c7_of BK1414.out rfl, c7_of BK1450.out rfl⟩ (fun hHeld => ?_); refine with_tabW chicorylaw06_ScalarRing.tab15 chicorylaw06_ScalarRing.bits15 (fun HT_ HW_ => ?_)
                            generalize w256.drew = w257 at BK1409 BK1410 BK1411 BK1414 BK1417 BK1420 BK1422 BK1424 BK1448 BK1450 HB hHeld ⊢
                            refine take_ (i := 0) (N := some 124) (v := ?_) (a' := ?_) #[tR, fA, fA, fA, fA, fA, fA, fA, fA, fA, fA, fA, fA, fA, fA, fA, fA, fA, fA, fA, fA, fA] rfl rfl (take_ofW HT_.out HW_.out (by kernel_rfl)) (fun _ _ _ h => h) (Or.inl ⟨by rfl, ?_⟩) hHeld ?_ ?_
                            rotate_left
                            · rintro w' ⟨⟨s0, s0_c1, s0_c2, s0_c3, s0_c4, s0_c5, s0_c6⟩, ⟨s1, s1_c1, s1_c2, s1_c3, s1_c4, s1_c5, s1_c6⟩, ⟨s2, s2_c1, s2_c2, s2_c3, s2_c4, s2_c5, s2_c6⟩⟩
                              go_simp
                              with_reducible rfl
                            rotate_left
                            · simp only [Act.put, List.setIfInBounds_toArray, List.set_cons_zero, List.set_cons_succ, i64_w, i32_w]
                              rfl
                            refine take_ (i := 1) (N := some 125) (v := ?_) (a' := ?_) #[tR, tR, fA, fA, fA, fA, fA, fA, fA, fA, fA, fA, fA, fA, fA, fA, fA, fA, fA, fA, fA, fA] rfl rfl (take_ofW HT_.out HW_.out (by kernel_rfl)) (fun _ _ _ h => h) (Or.inl ⟨by rfl, ?_⟩) hHeld ?_ ?_
                            rotate_left
                            · rintro w' ⟨⟨s0, s0_c1, s0_c2, s0_c3, s0_c4, s0_c5, s0_c6⟩, ⟨s1, s1_c1, s1_c2, s1_c3, s1_c4, s1_c5, s1_c6⟩, ⟨s2, s2_c1, s2_c2, s2_c3, s2_c4, s2_c5, s2_c6⟩⟩
                              go_simp
                              with_reducible rfl
                            rotate_left
                            · simp only [Act.put, List.setIfInBounds_toArray, List.set_cons_zero, List.set_cons_succ, i64_w, i32_w]
                              rfl
                            refine take_ (i := 3) (N := some 127) (v := ?_) (a' := ?_) #[tR, tR, fA, tR, fA, fA, fA, fA, fA, fA, fA, fA, fA, fA, fA, fA, fA, fA, fA, fA, fA, fA] rfl rfl (take_ofW HT_.out HW_.out (by kernel_rfl)) (fun _ _ _ h => h) (Or.inl ⟨by rfl, ?_⟩) hHeld ?_ ?_
                            rotate_left
                            · rintro w' ⟨⟨s0, s0_c1, s0_c2, s0_c3, s0_c4, s0_c5, s0_c6⟩, ⟨s1, s1_c1, s1_c2, s1_c3, s1_c4, s1_c5, s1_c6⟩, ⟨s2, s2_c1, s2_c2, s2_c3, s2_c4, s2_c5, s2_c6⟩⟩
                              go_simp
                              with_reducible rfl
                            rotate_left
                            · simp only [Act.put, List.setIfInBounds_toArray, List.set_cons_zero, List.set_cons_succ, i64_w, i32_w]
                              rfl
                            refine one_ (i := 2) (N := some 126) #[tR, tR, tR, tR, fA, fA, fA, fA, fA, fA, fA, fA, fA, fA, fA, fA, fA, fA, fA, fA, fA, fA] rfl rfl (one_of HT_.out (by kernel_rfl)) (by decide) (fun K hK => ?_)
                            refine goes_ Try.func64 (by kernel_rfl) rfl #[.agg (sv t1447), .agg (sv t1447)] (by rfl) rfl rfl (by (try simp only [List.map_toArray, List.map_cons, List.map_nil]); first | done | rfl | (simp only [List.length_drop, List.length_take]; rfl)) ?_
                            with_reducible refine (scalar_Add.calls kj125 t1447 t1447 t1454 _ A170.out).mono ?_
                            rintro e w258 ⟨rfl, hb⟩
                            refine ⟨_, rfl, ?_⟩
                            have n0_ := bkb BK1409 hb; have n1_ := bkb BK1410 hb; have n2_ := bkb BK1411 hb; have n3_ := bkb BK1414 hb; have n4_ := bkb BK1417 hb; have n5_ := bkb BK1420 hb; have n6_ := bkb BK1422 hb; have n7_ := bkb BK1424 hb; have n8_ := bkb BK1448 hb; have n9_ := bkb BK1450 hb; have n10_ := bel HB hb; clear BK1409; clear BK1410; clear BK1411; clear BK1414; clear BK1417; clear BK1420; clear BK1422; clear BK1424; clear BK1448; clear BK1450; clear HB; have BK1409 := n0_; have BK1410 := n1_; have BK1411 := n2_; have BK1414 := n3_; have BK1417 := n4_; have BK1420 := n5_; have BK1422 := n6_; have BK1424 := n7_; have BK1448 := n8_; have BK1450 := n9_; have HB := n10_; clear n0_ n1_ n2_ n3_ n4_ n5_ n6_ n7_ n8_ n9_ n10_; (try clear hb); (try clear hb2); (try clear hk); (try clear hi)
                            refine hK.out _ _ ⟨c7_of BK1448.out rfl, c7_of BK1414.out rfl, c7_of BK1450.out rfl⟩ (fun hHeld => ?_)
                            clear hK K
                            refine norm_ (a' := ?_) ?_ ?_
                            rotate_left
                            · show Act.put _ (some 126) _ = _
                              simp only [Act.put, List.setIfInBounds_toArray, List.set_cons_zero, List.set_cons_succ, i64_w, i32_w]
                              rfl
                            refine one_ (i := 4) (N := some 128) #[tR, tR, tR, tR, tR, fA, fA, fA, fA, fA, fA, fA, fA, fA, fA, fA, fA, fA, fA, fA, fA, fA] rfl rfl (one_of HT_.out (by kernel_rfl)) (by decide) (fun K hK => ?_)
                            refine goes_ Try.func76 (by kernel_rfl) rfl #[.agg (sv t1454), .agg (sv t1412)] (by rfl) rfl rfl (by (try simp only [List.map_toArray, List.map_cons, List.map_nil]); first | done | rfl | (simp only [List.length_drop, List.length_take]; rfl)) ?_
                            with_reducible refine (scalar_Equal.calls kj125 t1454 t1412 true _ A171.out).mono ?_
                            rintro e w259 ⟨rfl, hb⟩
                            refine ⟨_, rfl, ?_⟩
                            have n0_ := bkb BK1409 hb; have n1_ := bkb BK1410 hb; have n2_ := bkb BK1411 hb; have n3_ := bkb BK1414 hb; have n4_ := bkb BK1417 hb; have n5_ := bkb BK1420 hb; have n6_ := bkb BK1422 hb; have n7_ := bkb BK1424 hb; have n8_ := bkb BK1448 hb; have n9_ := bkb BK1450 hb; have n10_ := bel HB hb; clear BK1409; clear BK1410; clear BK1411; clear BK1414; clear BK1417; clear BK1420; clear BK1422; clear BK1424; clear BK1448; clear BK1450; clear HB; have BK1409 := n0_; have BK1410 := n1_; have BK1411 := n2_; have BK1414 := n3_; have BK1417 := n4_; have BK1420 := n5_; have BK1422 := n6_; have BK1424 := n7_; have BK1448 := n8_; have BK1450 := n9_; have HB := n10_; clear n0_ n1_ n2_ n3_ n4_ n5_ n6_ n7_ n8_ n9_ n10_; (try clear hb); (try clear hb2); (try clear hk); (try clear hi)
                            refine hK.out _ _ ⟨c7_of BK1448.out rfl, c7_of BK1414.out rfl, c7_of BK1450.out rfl⟩ (fun hHeld => ?_)
                            clear hK K
                            refine norm_ (a' := ?_) ?_ ?_
                            rotate_left
                            · show Act.put _ (some 128) _ = _
                              simp only [Act.put, List.setIfInBounds_toArray, List.set_cons_zero, List.set_cons_succ, i64_w, i32_w]
                              rfl
                            refine pure_ (i := 5) (N := some 129) (v := ?_) (a' := ?_) #[tR, tR, tR, tR, tR, tR, fA, fA, fA, fA, fA, fA, fA, fA, fA, fA, fA, fA, fA, fA, fA, fA] rfl rfl (any_of HT_.out (by kernel_rfl)) (fun _ _ _ h => h) (Or.inl ⟨by rfl, ?_⟩) ?_ ?_
                            rotate_left
                            · intro w'
                              go_simp
                              with_reducible rfl
                            rotate_left
                            · simp only [Act.put, List.setIfInBounds_toArray, List.set_cons_zero, List.set_cons_succ, i64_w, i32_w]
                              rfl
                            refine pure_ (i := 6) (N := some 130) (v := ?_) (a' := ?_) #[tR, tR, tR, tR, tR, tR, tR, fA, fA, fA, fA, fA, fA, fA, fA, fA, fA, fA, fA, fA, fA, fA] rfl rfl (any_of HT_.out (by kernel_rfl)) (fun _ _ _ h => h) (Or.inl ⟨by rfl, ?_⟩) ?_ ?_
                            rotate_left
                            · intro w'
                              go_simp
                              with_reducible rfl
                            rotate_left
                            · simp only [Act.put, List.setIfInBounds_toArray, List.set_cons_zero, List.set_cons_succ, i64_w, i32_w]
                              rfl
                            refine take_ (i := 7) (N := some 131) (v := ?_) (a' := ?_) #[tR, tR, tR, tR, tR, tR, tR, tR, fA, fA, fA, fA, fA, fA, fA, fA, fA, fA, fA, fA, fA, fA] rfl rfl (take_ofW HT_.out HW_.out (by kernel_rfl)) (fun _ _ _ h => h) (Or.inl ⟨by rfl, ?_⟩) hHeld ?_ ?_
                            rotate_left
                            · rintro w' ⟨⟨s0, s0_c1, s0_c2, s0_c3, s0_c4, s0_c5, s0_c6⟩, ⟨s1, s1_c1, s1_c2, s1_c3, s1_c4, s1_c5, s1_c6⟩, ⟨s2, s2_c1, s2_c2, s2_c3, s2_c4, s2_c5, s2_c6⟩⟩
                              go_simp
                              with_reducible rfl
                            rotate_left
                            · simp only [Act.put, List.setIfInBounds_toArray, List.set_cons_zero, List.set_cons_succ, i64_w, i32_w]
                              rfl
                            refine one_ (i := 8) (N := some 132) #[tR, tR, tR, tR, tR, tR, tR, tR, tR, fA, fA, fA, fA, fA, fA, fA, fA, fA, fA, fA, fA, fA] rfl rfl (one_of HT_.out (by kernel_rfl)) (by decide) (fun K hK => ?_)
                            refine goes_ Try.func77 (by kernel_rfl) rfl #[.agg (sv t1412)] (by rfl) rfl rfl (by (try simp only [List.map_toArray, List.map_cons, List.map_nil]); first | done | rfl | (simp only [List.length_drop, List.length_take]; rfl)) ?_
                            with_reducible refine (scalar_Zero.calls kj125 t1412 t1456 _ A173.out).mono ?_
                            rintro e w260 ⟨rfl, hb⟩
                            refine ⟨_, rfl, ?_⟩
                            have n0_ := bkb BK1409 hb; have n1_ := bkb BK1410 hb; have n2_ := bkb BK1411 hb; have n3_ := bkb BK1414 hb; have n4_ := bkb BK1417 hb; have n5_ := bkb BK1420 hb; have n6_ := bkb BK1422 hb; have n7_ := bkb BK1424 hb; have n8_ := bkb BK1448 hb; have n9_ := bkb BK1450 hb; have n10_ := bel HB hb; clear BK1409; clear BK1410; clear BK1411; clear BK1414; clear BK1417; clear BK1420; clear BK1422; clear BK1424; clear BK1448; clear BK1450; clear HB; have BK1409 := n0_; have BK1410 := n1_; have BK1411 := n2_; have BK1414 := n3_; have BK1417 := n4_; have BK1420 := n5_; have BK1422 := n6_; have BK1424 := n7_; have BK1448 := n8_; have BK1450 := n9_; have HB := n10_; clear n0_ n1_ n2_ n3_ n4_ n5_ n6_ n7_ n8_ n9_ n10_; (try clear hb); (try clear hb2); (try clear hk); (try clear hi)
                            refine hK.out _ _ ⟨c7_of BK1448.out rfl, c7_of BK1414.out rfl, c7_of BK1450.out rfl⟩ (fun hHeld => ?_)
                            clear hK K
                            refine norm_ (a' := ?_) ?_ ?_
                            rotate_left
                            · show Act.put _ (some 132) _ = _
                              simp only [Act.put, List.setIfInBounds_toArray, List.set_cons_zero, List.set_cons_succ, i64_w, i32_w]
                              rfl
                            refine pure_ (i := 9) (N := some 133) (v := ?_) (a' := ?_) #[tR, tR, tR, tR, tR, tR, tR, tR, tR, tR, fA, fA, fA, fA, fA, fA, fA, fA, fA, fA, fA, fA] rfl rfl (any_of HT_.out (by kernel_rfl)) (fun _ _ _ h => h) (Or.inl ⟨by rfl, ?_⟩) ?_ ?_
                            rotate_left
                            · intro w'
                              go_simp
                              with_reducible rfl
                            rotate_left
                            · simp only [Act.put, List.setIfInBounds_toArray, List.set_cons_zero, List.set_cons_succ, i64_w, i32_w]
                              rfl
                            refine pure_ (i := 10) (N := some 134) (v := ?_) (a' := ?_) #[tR, tR, tR, tR, tR, tR, tR, tR, tR, tR, tR, fA, fA, fA, fA, fA, fA, fA, fA, fA, fA, fA] rfl rfl (any_of HT_.out (by kernel_rfl)) (fun _ _ _ h => h) (Or.inl ⟨by rfl, ?_⟩) ?_ ?_
                            rotate_left
                            · intro w'
                              go_simp
                              with_reducible rfl
                            rotate_left
                            · simp only [Act.put, List.setIfInBounds_toArray, List.set_cons_zero, List.set_cons_succ, i64_w, i32_w]
                              rfl
                            refine pure_ (i := 11) (N := some 135) (v := ?_) (a' := ?_) #[tR, tR, tR, tR, tR, tR, tR, tR, tR, tR, tR, tR, fA, fA, fA, fA, fA, fA, fA, fA, fA, fA] rfl rfl (any_of HT_.out (by kernel_rfl)) (fun _ _ _ h => h) (Or.inl ⟨by rfl, ?_⟩) ?_ ?_
                            rotate_left
                            · intro w'
                              go_simp
                              with_reducible rfl
                            rotate_left
                            · simp only [Act.put, List.setIfInBounds_toArray, List.set_cons_zero, List.set_cons_succ, i64_w, i32_w]
                              rfl
                            refine pure_ (i := 12) (N := some 136) (v := ?_) (a' := ?_) #[tR, tR, tR, tR, tR, tR, tR, tR, tR, tR, tR, tR, tR, fA, fA, fA, fA, fA, fA, fA, fA, fA] rfl rfl (any_of HT_.out (by kernel_rfl)) (fun _ _ _ h => h) (Or.inl ⟨by rfl, ?_⟩) ?_ ?_
                            rotate_left
                            · intro w'
                              go_simp
                              with_reducible rfl
                            rotate_left
                            · simp only [Act.put, List.setIfInBounds_toArray, List.set_cons_zero, List.set_cons_succ, i64_w, i32_w]
                              rfl
                            refine pure_ (i := 13) (N := some 137) (v := ?_) (a' := ?_) #[tR, tR, tR, tR, tR, tR, tR, tR, tR, tR, tR, tR, tR, tR, fA, fA, fA, fA, fA, fA, fA, fA] rfl rfl (any_of HT_.out (by kernel_rfl)) (fun _ _ _ h => h) (Or.inl ⟨by rfl, ?_⟩) ?_ ?_
                            rotate_left
                            · intro w'
                              go_simp
                              with_reducible rfl
                            rotate_left
                            · simp only [Act.put, List.setIfInBounds_toArray, List.set_cons_zero, List.set_cons_succ, i64_w, i32_w]
                              rfl
                            refine take_ (i := 14) (N := some 138) (v := ?_) (a' := ?_) #[tR, tR, tR, tR, tR, tR, tR, tR, tR, tR, tR, tR, tR, tR, tR, fA, fA, fA, fA, fA, fA, fA] rfl rfl (take_ofW HT_.out HW_.out (by kernel_rfl)) (fun _ _ _ h => h) (Or.inl ⟨by rfl, ?_⟩) hHeld ?_ ?_
                            rotate_left
                            · rintro w' ⟨⟨s0, s0_c1, s0_c2, s0_c3, s0_c4, s0_c5, s0_c6⟩, ⟨s1, s1_c1, s1_c2, s1_c3, s1_c4, s1_c5, s1_c6⟩, ⟨s2, s2_c1, s2_c2, s2_c3, s2_c4, s2_c5, s2_c6⟩⟩
                              go_simp
                              with_reducible rfl
                            rotate_left
                            · simp only [Act.put, List.setIfInBounds_toArray, List.set_cons_zero, List.set_cons_succ, i64_w, i32_w]
                              rfl
                            refine one_ (i := 15) (N := some 139) #[tR, tR, tR, tR, tR, tR, tR, tR, tR, tR, tR, tR, tR, tR, tR, tR, fA, fA, fA, fA, fA, fA] rfl rfl (one_of HT_.out (by kernel_rfl)) (by decide) (fun K hK => ?_)
                            refine goes_ Try.func77 (by kernel_rfl) rfl #[.agg (sv t1449)] (by rfl) rfl rfl (by (try simp only [List.map_toArray, List.map_cons, List.map_nil]); first | done | rfl | (simp only [List.length_drop, List.length_take]; rfl)) ?_
                            with_reducible refine (scalar_Zero.calls kj125 t1449 true _ A218.out).mono ?_
                            rintro e w261 ⟨rfl, hb⟩
                            refine ⟨_, rfl, ?_⟩
                            have n0_ := bkb BK1409 hb; have n1_ := bkb BK1410 hb; have n2_ := bkb BK1411 hb; have n3_ := bkb BK1414 hb; have n4_ := bkb BK1417 hb; have n5_ := bkb BK1420 hb; have n6_ := bkb BK1422 hb; have n7_ := bkb BK1424 hb; have n8_ := bkb BK1448 hb; have n9_ := bkb BK1450 hb; have n10_ := bel HB hb; clear BK1409; clear BK1410; clear BK1411; clear BK1414; clear BK1417; clear BK1420; clear BK1422; clear BK1424; clear BK1448; clear BK1450; clear HB; have BK1409 := n0_; have BK1410 := n1_; have BK1411 := n2_; have BK1414 := n3_; have BK1417 := n4_; have BK1420 := n5_; have BK1422 := n6_; have BK1424 := n7_; have BK1448 := n8_; have BK1450 := n9_; have HB := n10_; clear n0_ n1_ n2_ n3_ n4_ n5_ n6_ n7_ n8_ n9_ n10_; (try clear hb); (try clear hb2); (try clear hk); (try clear hi)
                            refine hK.out _ _ ⟨c7_of BK1448.out rfl, c7_of BK1414.out rfl, c7_of BK1450.out rfl⟩ (fun hHeld => ?_)
                            clear hK K
                            refine norm_ (a' := ?_) ?_ ?_
                            rotate_left
                            · show Act.put _ (some 139) _ = _
                              simp only [Act.put, List.setIfInBounds_toArray, List.set_cons_zero, List.set_cons_succ, i64_w, i32_w]
                              rfl
                            refine pure_ (i := 16) (N := some 140) (v := ?_) (a' := ?_) #[tR, tR, tR, tR, tR, tR, tR, tR, tR, tR, tR, tR, tR, tR, tR, tR, tR, fA, fA, fA, fA, fA] rfl rfl (any_of HT_.out (by kernel_rfl)) (fun _ _ _ h => h) (Or.inl ⟨by rfl, ?_⟩) ?_ ?_
                            rotate_left
                            · intro w'
                              go_simp
                              with_reducible rfl
                            rotate_left
                            · simp only [Act.put, List.setIfInBounds_toArray, List.set_cons_zero, List.set_cons_succ, i64_w, i32_w]
                              rfl
                            refine pure_ (i := 17) (N := some 141) (v := ?_) (a' := ?_) #[tR, tR, tR, tR, tR, tR, tR, tR, tR, tR, tR, tR, tR, tR, tR, tR, tR, tR, fA, fA, fA, fA] rfl rfl (any_of HT_.out (by kernel_rfl)) (fun _ _ _ h => h) (Or.inl ⟨by rfl, ?_⟩) ?_ ?_
                            rotate_left
                            · intro w'
                              go_simp
                              with_reducible rfl
                            rotate_left
                            · simp only [Act.put, List.setIfInBounds_toArray, List.set_cons_zero, List.set_cons_succ, i64_w, i32_w]
                              rfl
                            refine pure_ (i := 18) (N := some 142) (v := ?_) (a' := ?_) #[tR, tR, tR, tR, tR, tR, tR, tR, tR, tR, tR, tR, tR, tR, tR, tR, tR, tR, tR, fA, fA, fA] rfl rfl (any_of HT_.out (by kernel_rfl)) (fun _ _ _ h => h) (Or.inl ⟨by rfl, ?_⟩) ?_ ?_
                            rotate_left
                            · intro w'
                              go_simp
                              with_reducible rfl
                            rotate_left
                            · simp only [Act.put, List.setIfInBounds_toArray, List.set_cons_zero, List.set_cons_succ, i64_w, i32_w]
                              rfl
                            refine one_ (i := 19) (N := some 143) #[tR, tR, tR, tR, tR, tR, tR, tR, tR, tR, tR, tR, tR, tR, tR, tR, tR, tR, tR, tR, fA, fA] rfl rfl (one_of HT_.out (by kernel_rfl)) (by decide) (fun K hK => ?_)
                            refine goes_ Try.func71 (by kernel_rfl) rfl #[] (by rfl) rfl rfl (by (try simp only [List.map_toArray, List.map_cons, List.map_nil]); first | done | rfl | (simp only [List.length_drop, List.length_take]; rfl)) ?_
                            with_reducible refine (chicorylaw06_awake.calls kj125  true _ A220.out).mono ?_
                            rintro e w262 ⟨rfl, hb⟩
                            refine ⟨_, rfl, ?_⟩
                            have n0_ := bkb BK1409 hb; have n1_ := bkb BK1410 hb; have n2_ := bkb BK1411 hb; have n3_ := bkb BK1414 hb; have n4_ := bkb BK1417 hb; have n5_ := bkb BK1420 hb; have n6_ := bkb BK1422 hb; have n7_ := bkb BK1424 hb; have n8_ := bkb BK1448 hb; have n9_ := bkb BK1450 hb; have n10_ := bel HB hb; clear BK1409; clear BK1410; clear BK1411; clear BK1414; clear BK1417; clear BK1420; clear BK1422; clear BK1424; clear BK1448; clear BK1450; clear HB; have BK1409 := n0_; have BK1410 := n1_; have BK1411 := n2_; have BK1414 := n3_; have BK1417 := n4_; have BK1420 := n5_; have BK1422 := n6_; have BK1424 := n7_; have BK1448 := n8_; have BK1450 := n9_; have HB := n10_; clear n0_ n1_ n2_ n3_ n4_ n5_ n6_ n7_ n8_ n9_ n10_; (try clear hb); (try clear hb2); (try clear hk); (try clear hi)
                            refine hK.out _ _ ⟨c7_of BK1448.out rfl, c7_of BK1414.out rfl, c7_of BK1450.out rfl⟩ (fun hHeld => ?_)
                            clear hK K
                            refine norm_ (a' := ?_) ?_ ?_
                            rotate_left
                            · show Act.put _ (some 143) _ = _
                              simp only [Act.put, List.setIfInBounds_toArray, List.set_cons_zero, List.set_cons_succ, i64_w, i32_w]
                              rfl
                            refine pure_ (i := 20) (N := some 144) (v := ?_) (a' := ?_) #[tR, tR, tR, tR, tR, tR, tR, tR, tR, tR, tR, tR, tR, tR, tR, tR, tR, tR, tR, tR, tR, fA] rfl rfl (any_of HT_.out (by kernel_rfl)) (fun _ _ _ h => h) (Or.inl ⟨by rfl, ?_⟩) ?_ ?_
                            rotate_left
                            · intro w'
                              go_simp
                              with_reducible rfl
                            rotate_left
                            · simp only [Act.put, List.setIfInBounds_toArray, List.set_cons_zero, List.set_cons_succ, i64_w, i32_w]
                              rfl
                            refine pure_ (i := 21) (N := some 6) (v := ?_) (a' := ?_) #[tR, tR, tR, tR, tR, tR, tR, tR, tR, tR, tR, tR, tR, tR, tR, tR, tR, tR, tR, tR, tR, tR] rfl rfl (any_of HT_.out (by kernel_rfl)) (fun _ _ _ h => h) (Or.inl ⟨by rfl, ?_⟩) ?_ ?_
                            rotate_left
                            · intro w'
                              go_simp
                              with_reducible rfl
                            rotate_left
                            · simp only [Act.put, List.setIfInBounds_toArray, List.set_cons_zero, List.set_cons_succ, i64_w, i32_w]
                              rfl
                            refine done_ (done_of HT_.out (by kernel_rfl)) ?_
                            try go_wp2
                            go_ret
                            exact ⟨by first | rfl | (simp [errW_none, errW_some] <;> rfl) | (simp [*, errW_none, errW_some] <;> rfl), by repeat (first | (with_reducible first | exact HB.out | apply below_alloc | apply pw_below_drewN | apply below_drew1 | refine below_set ?_ GE1409.out | refine below_set ?_ GE1410.out | refine below_set ?_ GE1411.out | refine below_set ?_ GE1414.out | refine below_set ?_ GE1417.out | refine below_set ?_ GE1420.out | refine below_set ?_ GE1422.out | refine below_set ?_ GE1424.out | refine below_set ?_ GE1448.out | refine below_set ?_ GE1450.out) | exact HB.out)⟩
                          · replace c219 := Bool.eq_false_iff.mpr c219
                            subst c219
                            have H1 : (some false) = some true := by rw [if_neg (show ¬ (false = true) by decide)] at H; exact H
                            clear H; have H := H1; clear H1
                            exact absurd H (by simp)
                      · rw [if_neg c174] at H
                        have c174b0 : (t1453 != t1456) = false := by simpa using c174
                        (try (have c174b1 : decide (t1453 = t1456) = true := by simpa using c174))
                        (try (have c174b2 : (t1453 == t1456) = true := by simpa using c174))
                        clear c174
                        exact absurd H (by simp)
                    · replace c172 := Bool.eq_false_iff.mpr c172
                      subst c172
                      have H1 : (some false) = some true := by rw [if_neg (show ¬ (false = true) by decide)] at H; exact H
                      clear H; have H := H1; clear H1
                      exact absurd H (by simp)
end Go.Proofs.Ytdaehflffecllaa.N
