/- The law ScalarBytes returns true whatever the input: N2 of its proof; no condition. (Joined by wip/shake.py.) -/
import Derived.Test.YtdaehflffecllaaMScalarBytesNx0
import Derived.Test.YtdaehflffecllaaMScalarBytesN0
import Derived.Test.YtdaehflffecllaaMScalarBytesN1
namespace Go.Proofs.Ytdaehflffecllaa.N
open Go.RowKit Go.Proofs.YtdaehflffecllaaW.PrintWords Go.Proofs.YtdaehflffecllaaW.PrintLast Go.Proofs.YtdaehflffecllaaW.PrintMore
attribute [local go_sem] max2_int min2_int max_two min_two max_three min_three max_four min_four   -- for this text's walks alone
set_option linter.unusedVariables false
set_option linter.unusedSimpArgs false
def chicoryref03_Double.l0 : Nat → List Int → Int → List Int → Int → Option (List Int)
  | 0, _, _, _, _ => none
  | k + 1, x0, x1, x5, x6 => if x6 < (x0.length : Int) then ((chicoryref03_at.f x0 x6).bind fun t356 => (if x5.length < 140737488355328 then (chicoryref03_Double.l0 k x0 (wrap64 (Int.tdiv (wrap64 ((wrap64 (2 * t356)) + x1)) 256)) (x5 ++ [(Int.tmod (wrap64 ((wrap64 (2 * t356)) + x1)) 256) % 256]) (wrap64 (x6 + 1))) else (none))) else (if x1 > 0 then ((chicoryref03_at.f x0 x6).bind fun t360 => (if x5.length < 140737488355328 then (chicoryref03_Double.l0 k x0 (wrap64 (Int.tdiv (wrap64 ((wrap64 (2 * t360)) + x1)) 256)) (x5 ++ [(Int.tmod (wrap64 ((wrap64 (2 * t360)) + x1)) 256) % 256]) (wrap64 (x6 + 1))) else (none))) else (some x5))
def chicoryref03_Double.f (k : Nat) (l0 : List Int) (a1 : Int) : Option (List Int) := chicoryref03_Double.l0 k l0 a1 ([] : List Int) 0
set_option maxHeartbeats 8000000 in
set_option maxRecDepth 100000 in
theorem chicoryref03_Double.calls (k : Nat) (A0 : Option Addr) (c0 : Nat) (l0 : List Int) (a1 : Int) (r : List Int) (w : World) (hr0 : Kd.C (Kd.int .u8) w A0 l0.length l0) (hc0 : l0.length ≤ c0) (h : chicoryref03_Double.f k l0 a1 = some r) :
    Calls Try.prog 104 #[.slice A0 l0.length c0, .int .i64 a1] w fun e w' => ∃ v0_ : Value, e = .returned (v0_) ∧ Kd.R (Kd.int .u8) 5 w' w.heap.size (fun _ => True) v0_ r ∧ Below w.heap.size w w' := by
  have HR0 := Aside0.mk hr0
  have HC0 := Aside0.mk hc0
  clear hr0 hc0
  have HB := Aside0.mk (Below.refl w.heap.size w)
  have H : (chicoryref03_Double.l0 k l0 a1 ([] : List Int) 0) = some r := h
  clear h
  have H' := Aside0.mk H
  clear H
  go_enter Try.func104, Try.ntmps104
  go_wp2
  go_loopg [1, 5, 6] k (fun kq v1 v5 v6 w' => ∃ (x1_1 : Int) (x5_1 : List Int) (x6_1 : Int), v1 = .int .i64 x1_1 ∧ v6 = .int .i64 x6_1 ∧ Aside0 (chicoryref03_Double.l0 kq l0 x1_1 x5_1 x6_1 = some r) ∧ Aside0 (kq ≤ k) ∧ Aside0 (Kd.R (Kd.int .u8) 5 w' w.heap.size (fun _ => True) v5 x5_1) ∧ Aside0 (Below w.heap.size w w'))
  case atStart => exact ⟨(a1), (([] : List Int)), (0), (by first | rfl | (simp; done) | (simp [*]; done)), (by first | rfl | (simp; done) | (simp [*]; done)), H', ⟨Nat.le_refl _⟩, ⟨by first | exact Kd.R_nil _ _ _ _ _ | exact Kd.N_nil _ _ _ _ _ | exact Kd.V_nil _ _ _ _ _ | exact Kd.Q_nil _ _ _ _ _ | exact Kd.S_nil _ _ _ _ _⟩, ⟨by repeat (first | (with_reducible first | exact HB.out | apply below_alloc | apply pw_below_drewN | apply below_drew1) | exact HB.out)⟩⟩
  case round =>
    clear H'
    try clear c1
    try clear p2
    obtain ⟨x1_1, x5_1, x6_1, rfl, rfl, HA, HK1, HO_5, HB⟩ := hrel
    cases gk with
    | zero => exact absurd HA.out (by simp [chicoryref03_Double.l0])
    | succ k1 =>
      have H := HA.out
      clear HA
      simp only [chicoryref03_Double.l0] at H
      by_cases c3 : x6_1 < (l0.length : Int)
      · rw [if_pos c3] at H
        have c3b0 : decide (x6_1 < (l0.length : Int)) = true := decide_eq_true c3
        clear c3
        replace H := Option.bind_eq_some_iff.mp H
        obtain ⟨t356, A40, H⟩ := H
        replace H : (if x5_1.length < 140737488355328 then (chicoryref03_Double.l0 k1 l0 (wrap64 (Int.tdiv (wrap64 ((wrap64 (2 * t356)) + x1_1)) 256)) (x5_1 ++ [(Int.tmod (wrap64 ((wrap64 (2 * t356)) + x1_1)) 256) % 256]) (wrap64 (x6_1 + 1))) else (none)) = some r := H
        have A4 := Aside0.mk A40
        clear A40
        by_cases c5 : x5_1.length < 140737488355328
        · rw [if_pos c5] at H
          have LMc5 := Aside0.mk c5
          clear c5
          obtain ⟨y357, hy357⟩ : ∃ y_ : List Int, y_ = (x5_1 ++ [(Int.tmod (wrap64 ((wrap64 (2 * t356)) + x1_1)) 256) % 256]) := ⟨_, rfl⟩
          replace H : (chicoryref03_Double.l0 k1 l0 (wrap64 (Int.tdiv (wrap64 ((wrap64 (2 * t356)) + x1_1)) 256)) y357 (wrap64 (x6_1 + 1))) = some r := by first | (rw [hy357]; with_reducible exact H) | (have H2_ := (Option.bind_some _ _).symm.trans H; rw [hy357]; with_reducible exact H2_) | (have H2_ := (Option.bind_some _ _).symm.trans H; with_reducible exact H2_) | with_reducible exact H | (rw [hy357]; exact H) | exact H
          have Ny357 := Aside0.mk hy357
          clear hy357
          have H' := Aside0.mk H
          clear H
          go_wp2_with (first | ((with_reducible refine gate_callee (f := 99) rfl ?_); refine goesL_ (some 20) rfl rfl Try.func99 (by kernel_rfl) rfl #[.slice A0 l0.length c0, .int .i64 x6_1] rfl (by (try simp only [List.map_toArray, List.map_cons, List.map_nil]); first | done | rfl | (simp only [List.length_drop, List.length_take]; rfl)) ?_; (with_reducible refine (chicoryref03_at.calls _ _ l0 x6_1 t356 _ ?side1 ?side2 A4.out).mono ?_); (case side1 => repeat (first | exact (Kd.C_below HR0.out HB.out) | (with_reducible refine Kd.C_alloc ?_ _) | (with_reducible refine Kd.C_drewN ?_ _) | (with_reducible refine Kd.C_drew ?_))); (case side2 => exact HC0.out); rintro e w' ⟨rfl, ⟨nd, rfl⟩⟩; refine ⟨_, rfl, ?_⟩) | ((with_reducible refine gate_builtin (b := .append) (xs := #[.tmp 24, .tmp 28]) rfl ?_); at_builtin; refine Kd.R_append (Kd.int .u8) (w0 := w) w.heap.size rfl (.tmp 24) (.tmp 28) 22 5 (.int .u8 0) 1 rfl Try.underlying22 info5 rfl (by decide) (by omega) u5 x5_1 ((Int.tmod (wrap64 ((wrap64 (2 * t356)) + x1_1)) 256) % 256) [.int .u8 ((Int.tmod (wrap64 ((wrap64 (2 * t356)) + x1_1)) 256) % 256)] (fun _ => True) (fun _ => False) rfl rfl ?aP (fun _ hk => hk.elim) ?aF ?aO ?aB ?aS ?aL ?_; (case aP => exact rfl); (case aB => exact (by repeat (first | (with_reducible first | exact HB.out | apply below_alloc | apply pw_below_drewN | apply below_drew1) | exact HB.out))); (case aF => exact (fun _ _ => trivial)); (case aO => exact (by (with_reducible repeat (first | apply Kd.R_alloc | apply Kd.R_drewN | apply Kd.R_drew)); exact HO_5.out)); (case aS => exact (below_size (by repeat (first | (with_reducible first | exact HB.out | apply below_alloc | apply pw_below_drewN | apply below_drew1) | exact HB.out)))); (case aL => have := LMc5.out; omega); intro v358 w6 ho hb hg hat; rw [← Ny357.out] at ho; have n0_ := Aside0.mk (hb); have n1_ := Aside0.mk (ho); clear HB; clear HO_5; have HB := n0_; have HO359 := n1_; clear n0_ n1_; clear ho hb hg hat))
          go_roundg k1
          case measure => have := HK1.out; omega
          case rel => exact ⟨(wrap64 (Int.tdiv (wrap64 ((wrap64 (2 * t356)) + x1_1)) 256)), (y357), (wrap64 (x6_1 + 1)), (by first | rfl | (simp; done) | (simp [*]; done)), (by first | rfl | (simp; done) | (simp [*]; done)), H', ⟨by have := HK1.out; omega⟩, ⟨by (with_reducible repeat (first | apply Kd.R_alloc | apply Kd.R_drewN | apply Kd.R_drew)); exact HO359.out⟩, ⟨by repeat (first | (with_reducible first | exact HB.out | apply below_alloc | apply pw_below_drewN | apply below_drew1) | exact HB.out)⟩⟩
        · rw [if_neg c5] at H
          exact absurd H (by simp)
      · rw [if_neg c3] at H
        have c3b0 : decide (x6_1 < (l0.length : Int)) = false := decide_eq_false c3
        clear c3
        by_cases c7 : x1_1 > 0
        · rw [if_pos c7] at H
          have c7b0 : decide (0 < x1_1) = true := decide_eq_true c7
          clear c7
          replace H := Option.bind_eq_some_iff.mp H
          obtain ⟨t360, A80, H⟩ := H
          replace H : (if x5_1.length < 140737488355328 then (chicoryref03_Double.l0 k1 l0 (wrap64 (Int.tdiv (wrap64 ((wrap64 (2 * t360)) + x1_1)) 256)) (x5_1 ++ [(Int.tmod (wrap64 ((wrap64 (2 * t360)) + x1_1)) 256) % 256]) (wrap64 (x6_1 + 1))) else (none)) = some r := H
          have A8 := Aside0.mk A80
          clear A80
          by_cases c9 : x5_1.length < 140737488355328
          · rw [if_pos c9] at H
            have LMc9 := Aside0.mk c9
            clear c9
            obtain ⟨y361, hy361⟩ : ∃ y_ : List Int, y_ = (x5_1 ++ [(Int.tmod (wrap64 ((wrap64 (2 * t360)) + x1_1)) 256) % 256]) := ⟨_, rfl⟩
            replace H : (chicoryref03_Double.l0 k1 l0 (wrap64 (Int.tdiv (wrap64 ((wrap64 (2 * t360)) + x1_1)) 256)) y361 (wrap64 (x6_1 + 1))) = some r := by first | (rw [hy361]; with_reducible exact H) | (have H2_ := (Option.bind_some _ _).symm.trans H; rw [hy361]; with_reducible exact H2_) | (have H2_ := (Option.bind_some _ _).symm.trans H; with_reducible exact H2_) | with_reducible exact H | (rw [hy361]; exact H) | exact H
            have Ny361 := Aside0.mk hy361
            clear hy361
            have H' := Aside0.mk H
            clear H
            go_wp2_with (first | ((with_reducible refine gate_callee (f := 99) rfl ?_); refine goesL_ (some 20) rfl rfl Try.func99 (by kernel_rfl) rfl #[.slice A0 l0.length c0, .int .i64 x6_1] rfl (by (try simp only [List.map_toArray, List.map_cons, List.map_nil]); first | done | rfl | (simp only [List.length_drop, List.length_take]; rfl)) ?_; (with_reducible refine (chicoryref03_at.calls _ _ l0 x6_1 t360 _ ?side1 ?side2 A8.out).mono ?_); (case side1 => repeat (first | exact (Kd.C_below HR0.out HB.out) | (with_reducible refine Kd.C_alloc ?_ _) | (with_reducible refine Kd.C_drewN ?_ _) | (with_reducible refine Kd.C_drew ?_))); (case side2 => exact HC0.out); rintro e w' ⟨rfl, ⟨nd, rfl⟩⟩; refine ⟨_, rfl, ?_⟩) | ((with_reducible refine gate_builtin (b := .append) (xs := #[.tmp 24, .tmp 28]) rfl ?_); at_builtin; refine Kd.R_append (Kd.int .u8) (w0 := w) w.heap.size rfl (.tmp 24) (.tmp 28) 22 5 (.int .u8 0) 1 rfl Try.underlying22 info5 rfl (by decide) (by omega) u5 x5_1 ((Int.tmod (wrap64 ((wrap64 (2 * t360)) + x1_1)) 256) % 256) [.int .u8 ((Int.tmod (wrap64 ((wrap64 (2 * t360)) + x1_1)) 256) % 256)] (fun _ => True) (fun _ => False) rfl rfl ?aP (fun _ hk => hk.elim) ?aF ?aO ?aB ?aS ?aL ?_; (case aP => exact rfl); (case aB => exact (by repeat (first | (with_reducible first | exact HB.out | apply below_alloc | apply pw_below_drewN | apply below_drew1) | exact HB.out))); (case aF => exact (fun _ _ => trivial)); (case aO => exact (by (with_reducible repeat (first | apply Kd.R_alloc | apply Kd.R_drewN | apply Kd.R_drew)); exact HO_5.out)); (case aS => exact (below_size (by repeat (first | (with_reducible first | exact HB.out | apply below_alloc | apply pw_below_drewN | apply below_drew1) | exact HB.out)))); (case aL => have := LMc9.out; omega); intro v362 w10 ho hb hg hat; rw [← Ny361.out] at ho; have n0_ := Aside0.mk (hb); have n1_ := Aside0.mk (ho); clear HB; clear HO_5; have HB := n0_; have HO363 := n1_; clear n0_ n1_; clear ho hb hg hat))
            go_roundg k1
            case measure => have := HK1.out; omega
            case rel => exact ⟨(wrap64 (Int.tdiv (wrap64 ((wrap64 (2 * t360)) + x1_1)) 256)), (y361), (wrap64 (x6_1 + 1)), (by first | rfl | (simp; done) | (simp [*]; done)), (by first | rfl | (simp; done) | (simp [*]; done)), H', ⟨by have := HK1.out; omega⟩, ⟨by (with_reducible repeat (first | apply Kd.R_alloc | apply Kd.R_drewN | apply Kd.R_drew)); exact HO363.out⟩, ⟨by repeat (first | (with_reducible first | exact HB.out | apply below_alloc | apply pw_below_drewN | apply below_drew1) | exact HB.out)⟩⟩
          · rw [if_neg c9] at H
            exact absurd H (by simp)
        · rw [if_neg c7] at H
          have c7b0 : decide (0 < x1_1) = false := decide_eq_false c7
          clear c7
          obtain rfl := Option.some.inj H
          go_wp2
          go_ret
          exact ⟨_, by first | rfl | (simp [errW_none, errW_some] <;> rfl) | (simp [*, errW_none, errW_some] <;> rfl), by (with_reducible repeat (first | apply Kd.R_alloc | apply Kd.R_drewN | apply Kd.R_drew)); exact HO_5.out, by repeat (first | (with_reducible first | exact HB.out | apply below_alloc | apply pw_below_drewN | apply below_drew1) | exact HB.out)⟩
def chicoryref03_Div.l0 : Nat → List Int → List Int → List Int → List Int → Int → Option (List Int × List Int)
  | 0, _, _, _, _, _ => none
  | k + 1, x0, x1, x6, x7, x8 => if x8 ≥ 0 then ((chicoryref03_Bit.f k x0 x8).bind fun t371 => ((chicoryref03_Double.f k x7 t371).bind fun t372 => ((chicoryref03_Compare.f k t372 x1).bind fun t375 => (if t375 ≥ 0 then ((chicoryref03_Sub.f k t372 x1).bind fun t376 => ((chicoryref03_Double.f k x6 1).bind fun t379 => (chicoryref03_Div.l0 k x0 x1 t379 t376 (wrap64 (x8 - 1))))) else ((chicoryref03_Double.f k x6 0).bind fun t382 => (chicoryref03_Div.l0 k x0 x1 t382 t372 (wrap64 (x8 - 1)))))))) else ((chicoryref03_Cut.f k x6).bind fun t365 => ((chicoryref03_Cut.f k x7).bind fun t368 => (some (t365, t368))))
def chicoryref03_Div.f (k : Nat) (l0 : List Int) (l1 : List Int) : Option (List Int × List Int) := (chicoryref03_Len.f k l0).bind fun t364 => (chicoryref03_Div.l0 k l0 l1 ([] : List Int) ([] : List Int) (wrap64 (t364 - 1)))
set_option maxHeartbeats 8000000 in
set_option maxRecDepth 100000 in
theorem chicoryref03_Div.calls (k : Nat) (A0 : Option Addr) (c0 : Nat) (l0 : List Int) (A1 : Option Addr) (c1 : Nat) (l1 : List Int) (r1 : List Int) (r2 : List Int) (w : World) (hr0 : Kd.C (Kd.int .u8) w A0 l0.length l0) (hc0 : l0.length ≤ c0) (hr1 : Kd.C (Kd.int .u8) w A1 l1.length l1) (hc1 : l1.length ≤ c1) (h : chicoryref03_Div.f k l0 l1 = some (r1, r2)) :
    Calls Try.prog 55 #[.slice A0 l0.length c0, .slice A1 l1.length c1] w fun e w' => ∃ v0_ v1_ : Value, e = .returned (.tuple #[v0_, v1_]) ∧ Kd.V (Kd.int .u8) 5 w' w.heap.size (fun k_ => (w.heap.size ≤ k_)) v0_ r1 ∧ Kd.V (Kd.int .u8) 5 w' w.heap.size (fun k_ => (w.heap.size ≤ k_)) v1_ r2 ∧ Below w.heap.size w w' := by
  have HR0 := Aside0.mk hr0
  have HC0 := Aside0.mk hc0
  clear hr0 hc0
  have HR1 := Aside0.mk hr1
  have HC1 := Aside0.mk hc1
  clear hr1 hc1
  have HB := Aside0.mk (Below.refl w.heap.size w)
  have H : ((chicoryref03_Len.f k l0).bind fun t364 => (chicoryref03_Div.l0 k l0 l1 ([] : List Int) ([] : List Int) (wrap64 (t364 - 1)))) = some (r1, r2) := h
  clear h
  replace H := Option.bind_eq_some_iff.mp H
  obtain ⟨t364, A30, H⟩ := H
  replace H : (chicoryref03_Div.l0 k l0 l1 ([] : List Int) ([] : List Int) (wrap64 (t364 - 1))) = some (r1, r2) := H
  have A3 := Aside0.mk A30
  clear A30
  have H' := Aside0.mk H
  clear H
  go_enter Try.func55, Try.ntmps55
  go_wp2_with (first | ((with_reducible refine gate_callee (f := 45) rfl ?_); refine goesL_ (some 11) rfl rfl Try.func45 (by kernel_rfl) rfl #[.slice A0 l0.length c0] rfl (by (try simp only [List.map_toArray, List.map_cons, List.map_nil]); first | done | rfl | (simp only [List.length_drop, List.length_take]; rfl)) ?_; (with_reducible refine (chicoryref03_Len.calls k _ _ l0 t364 _ ?side1 ?side2 A3.out).mono ?_); (case side1 => repeat (first | exact HR0.out | (with_reducible refine Kd.C_alloc ?_ _) | (with_reducible refine Kd.C_drewN ?_ _) | (with_reducible refine Kd.C_drew ?_))); (case side2 => exact HC0.out); rintro e w' ⟨rfl, ⟨nd, rfl⟩⟩; refine ⟨_, rfl, ?_⟩))
  go_loopg [6, 7, 8] k (fun kq v6 v7 v8 w' => ∃ (x6_1 : List Int) (x7_1 : List Int) (x8_1 : Int), v8 = .int .i64 x8_1 ∧ Aside0 (chicoryref03_Div.l0 kq l0 l1 x6_1 x7_1 x8_1 = some (r1, r2)) ∧ Aside0 (kq ≤ k) ∧ Aside0 (Kd.R (Kd.int .u8) 5 w' w.heap.size (fun k_ => (w.heap.size ≤ k_)) v6 x6_1) ∧ Aside0 (Kd.V (Kd.int .u8) 5 w' w.heap.size (fun k_ => (w.heap.size ≤ k_) ∧ some k_ ≠ (v6 : Value).ownBlock) v7 x7_1) ∧ Aside0 (Below w.heap.size w w'))
  case atStart => exact ⟨(([] : List Int)), (([] : List Int)), (wrap64 (t364 - 1)), (by first | rfl | (simp; done) | (simp [*]; done)), H', ⟨Nat.le_refl _⟩, ⟨by first | exact Kd.R_nil _ _ _ _ _ | exact Kd.N_nil _ _ _ _ _ | exact Kd.V_nil _ _ _ _ _ | exact Kd.Q_nil _ _ _ _ _ | exact Kd.S_nil _ _ _ _ _⟩, ⟨Kd.V_nil _ _ _ _ _⟩, ⟨by repeat (first | (with_reducible first | exact HB.out | apply below_alloc | apply pw_below_drewN | apply below_drew1) | exact HB.out)⟩⟩
  case round =>
    clear H'
    try clear c1
    try clear p2
    obtain ⟨x6_1, x7_1, x8_1, rfl, HA, HK1, HO_6, HO_7, HB⟩ := hrel
    cases gk with
    | zero => exact absurd HA.out (by simp [chicoryref03_Div.l0])
    | succ k1 =>
      have H := HA.out
      clear HA
      simp only [chicoryref03_Div.l0] at H
      by_cases c4 : x8_1 ≥ 0
      · rw [if_pos c4] at H
        have c4b0 : decide (0 ≤ x8_1) = true := decide_eq_true c4
        clear c4
        replace H := Option.bind_eq_some_iff.mp H
        obtain ⟨t371, A50, H⟩ := H
        replace H : ((chicoryref03_Double.f k1 x7_1 t371).bind fun t372 => ((chicoryref03_Compare.f k1 t372 l1).bind fun t375 => (if t375 ≥ 0 then ((chicoryref03_Sub.f k1 t372 l1).bind fun t376 => ((chicoryref03_Double.f k1 x6_1 1).bind fun t379 => (chicoryref03_Div.l0 k1 l0 l1 t379 t376 (wrap64 (x8_1 - 1))))) else ((chicoryref03_Double.f k1 x6_1 0).bind fun t382 => (chicoryref03_Div.l0 k1 l0 l1 t382 t372 (wrap64 (x8_1 - 1))))))) = some (r1, r2) := H
        have A5 := Aside0.mk A50
        clear A50
        replace H := Option.bind_eq_some_iff.mp H
        obtain ⟨t372, A60, H⟩ := H
        replace H : ((chicoryref03_Compare.f k1 t372 l1).bind fun t375 => (if t375 ≥ 0 then ((chicoryref03_Sub.f k1 t372 l1).bind fun t376 => ((chicoryref03_Double.f k1 x6_1 1).bind fun t379 => (chicoryref03_Div.l0 k1 l0 l1 t379 t376 (wrap64 (x8_1 - 1))))) else ((chicoryref03_Double.f k1 x6_1 0).bind fun t382 => (chicoryref03_Div.l0 k1 l0 l1 t382 t372 (wrap64 (x8_1 - 1)))))) = some (r1, r2) := H
        have A6 := Aside0.mk A60
        clear A60
        replace H := Option.bind_eq_some_iff.mp H
        obtain ⟨t375, A70, H⟩ := H
        replace H : (if t375 ≥ 0 then ((chicoryref03_Sub.f k1 t372 l1).bind fun t376 => ((chicoryref03_Double.f k1 x6_1 1).bind fun t379 => (chicoryref03_Div.l0 k1 l0 l1 t379 t376 (wrap64 (x8_1 - 1))))) else ((chicoryref03_Double.f k1 x6_1 0).bind fun t382 => (chicoryref03_Div.l0 k1 l0 l1 t382 t372 (wrap64 (x8_1 - 1))))) = some (r1, r2) := H
        have A7 := Aside0.mk A70
        clear A70
        by_cases c8 : t375 ≥ 0
        · rw [if_pos c8] at H
          have c8b0 : decide (0 ≤ t375) = true := decide_eq_true c8
          clear c8
          replace H := Option.bind_eq_some_iff.mp H
          obtain ⟨t376, A90, H⟩ := H
          replace H : ((chicoryref03_Double.f k1 x6_1 1).bind fun t379 => (chicoryref03_Div.l0 k1 l0 l1 t379 t376 (wrap64 (x8_1 - 1)))) = some (r1, r2) := H
          have A9 := Aside0.mk A90
          clear A90
          replace H := Option.bind_eq_some_iff.mp H
          obtain ⟨t379, A100, H⟩ := H
          replace H : (chicoryref03_Div.l0 k1 l0 l1 t379 t376 (wrap64 (x8_1 - 1))) = some (r1, r2) := H
          have A10 := Aside0.mk A100
          clear A100
          have H' := Aside0.mk H
          clear H
          go_wp2_with (first | ((with_reducible refine gate_callee (f := 46) rfl ?_); refine goesL_ (some 20) rfl rfl Try.func46 (by kernel_rfl) rfl #[.slice A0 l0.length c0, .int .i64 x8_1] rfl (by (try simp only [List.map_toArray, List.map_cons, List.map_nil]); first | done | rfl | (simp only [List.length_drop, List.length_take]; rfl)) ?_; (with_reducible refine (chicoryref03_Bit.calls k1 _ _ l0 x8_1 t371 _ ?side1 ?side2 A5.out).mono ?_); (case side1 => repeat (first | exact (Kd.C_below HR0.out HB.out) | (with_reducible refine Kd.C_alloc ?_ _) | (with_reducible refine Kd.C_drewN ?_ _) | (with_reducible refine Kd.C_drew ?_))); (case side2 => exact HC0.out); rintro e w' ⟨rfl, ⟨nd, rfl⟩⟩; refine ⟨_, rfl, ?_⟩; obtain ⟨Ao11, co11, eo11⟩ := Kd.V_slice HO_7.out; subst eo11) | ((with_reducible refine gate_callee (f := 104) rfl ?_); refine goesL_ (some 21) rfl rfl Try.func104 (by kernel_rfl) rfl #[.slice Ao11 x7_1.length co11, .int .i64 t371] rfl (by (try simp only [List.map_toArray, List.map_cons, List.map_nil]); first | done | rfl | (simp only [List.length_drop, List.length_take]; rfl)) ?_; (with_reducible refine (chicoryref03_Double.calls k1 _ _ x7_1 t371 t372 _ ?side1 ?side2 A6.out).mono ?_); (case side1 => repeat (first | exact (Kd.V_reads' HO_7.out).2.2 | (with_reducible refine Kd.C_alloc ?_ _) | (with_reducible refine Kd.C_drewN ?_ _) | (with_reducible refine Kd.C_drew ?_))); (case side2 => exact (Kd.V_reads' HO_7.out).2.1); rintro e w12 ⟨v373, rfl, ho0, hb⟩; refine ⟨_, rfl, ?_⟩; have n0_ := Aside0.mk (Kd.R_elder' (by (with_reducible repeat (first | apply Kd.R_alloc | apply Kd.R_drewN | apply Kd.R_drew)); exact HO_6.out) (Kd.R_base ho0) hb); have n1_ := Aside0.mk (Kd.V_elder' (by (with_reducible repeat (first | apply Kd.V_alloc | apply Kd.V_drewN | apply Kd.V_drew)); exact HO_7.out) (Kd.R_base ho0) hb); have n2_ := Aside0.mk (Kd.R_lower (Kd.R_new' (Kd.R_newM (M := fun k_ => (w.heap.size ≤ k_)) ho0 (below_size (by repeat (first | (with_reducible first | exact HB.out | apply below_alloc | apply pw_below_drewN | apply below_drew1) | exact HB.out))) (fun k_ h_ => h_)) (Kd.R_lt (by (with_reducible repeat (first | apply Kd.R_alloc | apply Kd.R_drewN | apply Kd.R_drew)); exact HO_6.out))) (below_size (by repeat (first | (with_reducible first | exact HB.out | apply below_alloc | apply pw_below_drewN | apply below_drew1) | exact HB.out)))); have n3_ := Aside0.mk (below_step (by repeat (first | (with_reducible first | exact HB.out | apply below_alloc | apply pw_below_drewN | apply below_drew1) | exact HB.out)) hb); clear HO_6; clear HO_7; clear HB; have HO_6 := n0_; have HO_7 := n1_; have HO374 := n2_; have HB := n3_; clear n0_ n1_ n2_ n3_; (try clear hb); (try clear hb2); (try clear hk); (try clear hi); (try clear ho0); obtain ⟨Ao13, co13, eo13⟩ := Kd.R_slice HO374.out; subst eo13) | ((with_reducible refine gate_callee (f := 43) rfl ?_); refine goesL_ (some 24) rfl rfl Try.func43 (by kernel_rfl) rfl #[.slice Ao13 t372.length co13, .slice A1 l1.length c1] rfl (by (try simp only [List.map_toArray, List.map_cons, List.map_nil]); first | done | rfl | (simp only [List.length_drop, List.length_take]; rfl)) ?_; (with_reducible refine (chicoryref03_Compare.calls k1 _ _ t372 _ _ l1 t375 _ ?side1 ?side2 ?side3 ?side4 A7.out).mono ?_); (case side1 => repeat (first | exact (Kd.R_reads' HO374.out).2.2 | (with_reducible refine Kd.C_alloc ?_ _) | (with_reducible refine Kd.C_drewN ?_ _) | (with_reducible refine Kd.C_drew ?_))); (case side2 => exact (Kd.R_reads' HO374.out).2.1); (case side3 => repeat (first | exact (Kd.C_below HR1.out HB.out) | (with_reducible refine Kd.C_alloc ?_ _) | (with_reducible refine Kd.C_drewN ?_ _) | (with_reducible refine Kd.C_drew ?_))); (case side4 => exact HC1.out); rintro e w14 ⟨rfl, hb⟩; refine ⟨_, rfl, ?_⟩; have n0_ := Aside0.mk (Kd.R_below (by (with_reducible repeat (first | apply Kd.R_alloc | apply Kd.R_drewN | apply Kd.R_drew)); exact HO_6.out) hb); have n1_ := Aside0.mk (Kd.V_below (by (with_reducible repeat (first | apply Kd.V_alloc | apply Kd.V_drewN | apply Kd.V_drew)); exact HO_7.out) hb); have n2_ := Aside0.mk (Kd.R_below (by (with_reducible repeat (first | apply Kd.R_alloc | apply Kd.R_drewN | apply Kd.R_drew)); exact HO374.out) hb); have n3_ := Aside0.mk (below_step (by repeat (first | (with_reducible first | exact HB.out | apply below_alloc | apply pw_below_drewN | apply below_drew1) | exact HB.out)) hb); clear HO_6; clear HO_7; clear HO374; clear HB; have HO_6 := n0_; have HO_7 := n1_; have HO374 := n2_; have HB := n3_; clear n0_ n1_ n2_ n3_; (try clear hb); (try clear hb2); (try clear hk); (try clear hi)) | ((with_reducible refine gate_callee (f := 53) rfl ?_); refine goesL_ (some 28) rfl rfl Try.func53 (by kernel_rfl) rfl #[.slice Ao13 t372.length co13, .slice A1 l1.length c1] rfl (by (try simp only [List.map_toArray, List.map_cons, List.map_nil]); first | done | rfl | (simp only [List.length_drop, List.length_take]; rfl)) ?_; (with_reducible refine (chicoryref03_Sub.calls k1 _ _ t372 _ _ l1 t376 _ ?side1 ?side2 ?side3 ?side4 A9.out).mono ?_); (case side1 => repeat (first | exact (Kd.R_reads' HO374.out).2.2 | (with_reducible refine Kd.C_alloc ?_ _) | (with_reducible refine Kd.C_drewN ?_ _) | (with_reducible refine Kd.C_drew ?_))); (case side2 => exact (Kd.R_reads' HO374.out).2.1); (case side3 => repeat (first | exact (Kd.C_below HR1.out HB.out) | (with_reducible refine Kd.C_alloc ?_ _) | (with_reducible refine Kd.C_drewN ?_ _) | (with_reducible refine Kd.C_drew ?_))); (case side4 => exact HC1.out); rintro e w15 ⟨v377, rfl, ho0, hb⟩; refine ⟨_, rfl, ?_⟩; have n0_ := Aside0.mk (Kd.R_below (by (with_reducible repeat (first | apply Kd.R_alloc | apply Kd.R_drewN | apply Kd.R_drew)); exact HO_6.out) hb); have n1_ := Aside0.mk (Kd.V_below (by (with_reducible repeat (first | apply Kd.V_alloc | apply Kd.V_drewN | apply Kd.V_drew)); exact HO_7.out) hb); have n2_ := Aside0.mk (Kd.R_below (by (with_reducible repeat (first | apply Kd.R_alloc | apply Kd.R_drewN | apply Kd.R_drew)); exact HO374.out) hb); have n3_ := Aside0.mk (Kd.V_lower (Kd.V_mono (ok' := fun k_ => (w.heap.size ≤ k_) ∧ some k_ ≠ (u6 : Value).ownBlock ∧ some k_ ≠ (.slice Ao13 t372.length co13 : Value).ownBlock) ho0 (fun k_ hk_ => ⟨(Nat.le_trans (below_size (by repeat (first | (with_reducible first | exact HB.out | apply below_alloc | apply pw_below_drewN | apply below_drew1) | exact HB.out))) hk_), (Kd.fresh' (Kd.R_lt (by (with_reducible repeat (first | apply Kd.R_alloc | apply Kd.R_drewN | apply Kd.R_drew)); exact HO_6.out)) k_ hk_), (Kd.fresh' (Kd.R_lt (by (with_reducible repeat (first | apply Kd.R_alloc | apply Kd.R_drewN | apply Kd.R_drew)); exact HO374.out)) k_ hk_)⟩)) (below_size (by repeat (first | (with_reducible first | exact HB.out | apply below_alloc | apply pw_below_drewN | apply below_drew1) | exact HB.out)))); have n4_ := Aside0.mk (below_step (by repeat (first | (with_reducible first | exact HB.out | apply below_alloc | apply pw_below_drewN | apply below_drew1) | exact HB.out)) hb); clear HO_6; clear HO_7; clear HO374; clear HB; have HO_6 := n0_; have HO_7 := n1_; have HO374 := n2_; have HO378 := n3_; have HB := n4_; clear n0_ n1_ n2_ n3_ n4_; (try clear hb); (try clear hb2); (try clear hk); (try clear hi); (try clear ho0); obtain ⟨Ao16, co16, eo16⟩ := Kd.R_slice HO_6.out; subst eo16) | ((with_reducible refine gate_callee (f := 104) rfl ?_); refine goesL_ (some 31) rfl rfl Try.func104 (by kernel_rfl) rfl #[.slice Ao16 x6_1.length co16, .int .i64 1] rfl (by (try simp only [List.map_toArray, List.map_cons, List.map_nil]); first | done | rfl | (simp only [List.length_drop, List.length_take]; rfl)) ?_; (with_reducible refine (chicoryref03_Double.calls k1 _ _ x6_1 1 t379 _ ?side1 ?side2 A10.out).mono ?_); (case side1 => repeat (first | exact (Kd.R_reads' HO_6.out).2.2 | (with_reducible refine Kd.C_alloc ?_ _) | (with_reducible refine Kd.C_drewN ?_ _) | (with_reducible refine Kd.C_drew ?_))); (case side2 => exact (Kd.R_reads' HO_6.out).2.1); rintro e w17 ⟨v380, rfl, ho0, hb⟩; refine ⟨_, rfl, ?_⟩; have n0_ := Aside0.mk (Kd.R_elder' (by (with_reducible repeat (first | apply Kd.R_alloc | apply Kd.R_drewN | apply Kd.R_drew)); exact HO_6.out) (Kd.R_base ho0) hb); have n1_ := Aside0.mk (Kd.V_elder' (by (with_reducible repeat (first | apply Kd.V_alloc | apply Kd.V_drewN | apply Kd.V_drew)); exact HO_7.out) (Kd.R_base ho0) hb); have n2_ := Aside0.mk (Kd.R_elder' (by (with_reducible repeat (first | apply Kd.R_alloc | apply Kd.R_drewN | apply Kd.R_drew)); exact HO374.out) (Kd.R_base ho0) hb); have n3_ := Aside0.mk (Kd.V_elder' (by (with_reducible repeat (first | apply Kd.V_alloc | apply Kd.V_drewN | apply Kd.V_drew)); exact HO378.out) (Kd.R_base ho0) hb); have n4_ := Aside0.mk (Kd.R_lower (Kd.R_new' (Kd.R_new' (Kd.R_newM (M := fun k_ => (w.heap.size ≤ k_)) ho0 (below_size (by repeat (first | (with_reducible first | exact HB.out | apply below_alloc | apply pw_below_drewN | apply below_drew1) | exact HB.out))) (fun k_ h_ => h_)) (Kd.R_lt (by (with_reducible repeat (first | apply Kd.R_alloc | apply Kd.R_drewN | apply Kd.R_drew)); exact HO_6.out))) (Kd.R_lt (by (with_reducible repeat (first | apply Kd.R_alloc | apply Kd.R_drewN | apply Kd.R_drew)); exact HO374.out))) (below_size (by repeat (first | (with_reducible first | exact HB.out | apply below_alloc | apply pw_below_drewN | apply below_drew1) | exact HB.out)))); have n5_ := Aside0.mk (below_step (by repeat (first | (with_reducible first | exact HB.out | apply below_alloc | apply pw_below_drewN | apply below_drew1) | exact HB.out)) hb); clear HO_6; clear HO_7; clear HO374; clear HO378; clear HB; have HO_6 := n0_; have HO_7 := n1_; have HO374 := n2_; have HO378 := n3_; have HO381 := n4_; have HB := n5_; clear n0_ n1_ n2_ n3_ n4_ n5_; (try clear hb); (try clear hb2); (try clear hk); (try clear hi); (try clear ho0)))
          go_roundg k1
          case measure => have := HK1.out; omega
          case rel => exact ⟨(t379), (t376), (wrap64 (x8_1 - 1)), (by first | rfl | (simp; done) | (simp [*]; done)), H', ⟨by have := HK1.out; omega⟩, ⟨by (with_reducible repeat (first | apply Kd.R_alloc | apply Kd.R_drewN | apply Kd.R_drew)); exact Kd.R_mono HO381.out (fun _ hk => hk.1.1.1)⟩, ⟨by (with_reducible repeat (first | apply Kd.V_alloc | apply Kd.V_drewN | apply Kd.V_drew)); exact Kd.V_mono HO378.out (fun _ hk => ⟨hk.1.1, hk.2⟩)⟩, ⟨by repeat (first | (with_reducible first | exact HB.out | apply below_alloc | apply pw_below_drewN | apply below_drew1) | exact HB.out)⟩⟩
        · rw [if_neg c8] at H
          have c8b0 : decide (0 ≤ t375) = false := decide_eq_false c8
          clear c8
          replace H := Option.bind_eq_some_iff.mp H
          obtain ⟨t382, A180, H⟩ := H
          replace H : (chicoryref03_Div.l0 k1 l0 l1 t382 t372 (wrap64 (x8_1 - 1))) = some (r1, r2) := H
          have A18 := Aside0.mk A180
          clear A180
          have H' := Aside0.mk H
          clear H
          go_wp2_with (first | ((with_reducible refine gate_callee (f := 46) rfl ?_); refine goesL_ (some 20) rfl rfl Try.func46 (by kernel_rfl) rfl #[.slice A0 l0.length c0, .int .i64 x8_1] rfl (by (try simp only [List.map_toArray, List.map_cons, List.map_nil]); first | done | rfl | (simp only [List.length_drop, List.length_take]; rfl)) ?_; (with_reducible refine (chicoryref03_Bit.calls k1 _ _ l0 x8_1 t371 _ ?side1 ?side2 A5.out).mono ?_); (case side1 => repeat (first | exact (Kd.C_below HR0.out HB.out) | (with_reducible refine Kd.C_alloc ?_ _) | (with_reducible refine Kd.C_drewN ?_ _) | (with_reducible refine Kd.C_drew ?_))); (case side2 => exact HC0.out); rintro e w' ⟨rfl, ⟨nd, rfl⟩⟩; refine ⟨_, rfl, ?_⟩; obtain ⟨Ao19, co19, eo19⟩ := Kd.V_slice HO_7.out; subst eo19) | ((with_reducible refine gate_callee (f := 104) rfl ?_); refine goesL_ (some 21) rfl rfl Try.func104 (by kernel_rfl) rfl #[.slice Ao19 x7_1.length co19, .int .i64 t371] rfl (by (try simp only [List.map_toArray, List.map_cons, List.map_nil]); first | done | rfl | (simp only [List.length_drop, List.length_take]; rfl)) ?_; (with_reducible refine (chicoryref03_Double.calls k1 _ _ x7_1 t371 t372 _ ?side1 ?side2 A6.out).mono ?_); (case side1 => repeat (first | exact (Kd.V_reads' HO_7.out).2.2 | (with_reducible refine Kd.C_alloc ?_ _) | (with_reducible refine Kd.C_drewN ?_ _) | (with_reducible refine Kd.C_drew ?_))); (case side2 => exact (Kd.V_reads' HO_7.out).2.1); rintro e w20 ⟨v373, rfl, ho0, hb⟩; refine ⟨_, rfl, ?_⟩; have n0_ := Aside0.mk (Kd.R_elder' (by (with_reducible repeat (first | apply Kd.R_alloc | apply Kd.R_drewN | apply Kd.R_drew)); exact HO_6.out) (Kd.R_base ho0) hb); have n1_ := Aside0.mk (Kd.V_elder' (by (with_reducible repeat (first | apply Kd.V_alloc | apply Kd.V_drewN | apply Kd.V_drew)); exact HO_7.out) (Kd.R_base ho0) hb); have n2_ := Aside0.mk (Kd.R_lower (Kd.R_new' (Kd.R_newM (M := fun k_ => (w.heap.size ≤ k_)) ho0 (below_size (by repeat (first | (with_reducible first | exact HB.out | apply below_alloc | apply pw_below_drewN | apply below_drew1) | exact HB.out))) (fun k_ h_ => h_)) (Kd.R_lt (by (with_reducible repeat (first | apply Kd.R_alloc | apply Kd.R_drewN | apply Kd.R_drew)); exact HO_6.out))) (below_size (by repeat (first | (with_reducible first | exact HB.out | apply below_alloc | apply pw_below_drewN | apply below_drew1) | exact HB.out)))); have n3_ := Aside0.mk (below_step (by repeat (first | (with_reducible first | exact HB.out | apply below_alloc | apply pw_below_drewN | apply below_drew1) | exact HB.out)) hb); clear HO_6; clear HO_7; clear HB; have HO_6 := n0_; have HO_7 := n1_; have HO374 := n2_; have HB := n3_; clear n0_ n1_ n2_ n3_; (try clear hb); (try clear hb2); (try clear hk); (try clear hi); (try clear ho0); obtain ⟨Ao21, co21, eo21⟩ := Kd.R_slice HO374.out; subst eo21) | ((with_reducible refine gate_callee (f := 43) rfl ?_); refine goesL_ (some 24) rfl rfl Try.func43 (by kernel_rfl) rfl #[.slice Ao21 t372.length co21, .slice A1 l1.length c1] rfl (by (try simp only [List.map_toArray, List.map_cons, List.map_nil]); first | done | rfl | (simp only [List.length_drop, List.length_take]; rfl)) ?_; (with_reducible refine (chicoryref03_Compare.calls k1 _ _ t372 _ _ l1 t375 _ ?side1 ?side2 ?side3 ?side4 A7.out).mono ?_); (case side1 => repeat (first | exact (Kd.R_reads' HO374.out).2.2 | (with_reducible refine Kd.C_alloc ?_ _) | (with_reducible refine Kd.C_drewN ?_ _) | (with_reducible refine Kd.C_drew ?_))); (case side2 => exact (Kd.R_reads' HO374.out).2.1); (case side3 => repeat (first | exact (Kd.C_below HR1.out HB.out) | (with_reducible refine Kd.C_alloc ?_ _) | (with_reducible refine Kd.C_drewN ?_ _) | (with_reducible refine Kd.C_drew ?_))); (case side4 => exact HC1.out); rintro e w22 ⟨rfl, hb⟩; refine ⟨_, rfl, ?_⟩; have n0_ := Aside0.mk (Kd.R_below (by (with_reducible repeat (first | apply Kd.R_alloc | apply Kd.R_drewN | apply Kd.R_drew)); exact HO_6.out) hb); have n1_ := Aside0.mk (Kd.V_below (by (with_reducible repeat (first | apply Kd.V_alloc | apply Kd.V_drewN | apply Kd.V_drew)); exact HO_7.out) hb); have n2_ := Aside0.mk (Kd.R_below (by (with_reducible repeat (first | apply Kd.R_alloc | apply Kd.R_drewN | apply Kd.R_drew)); exact HO374.out) hb); have n3_ := Aside0.mk (below_step (by repeat (first | (with_reducible first | exact HB.out | apply below_alloc | apply pw_below_drewN | apply below_drew1) | exact HB.out)) hb); clear HO_6; clear HO_7; clear HO374; clear HB; have HO_6 := n0_; have HO_7 := n1_; have HO374 := n2_; have HB := n3_; clear n0_ n1_ n2_ n3_; (try clear hb); (try clear hb2); (try clear hk); (try clear hi); obtain ⟨Ao23, co23, eo23⟩ := Kd.R_slice HO_6.out; subst eo23) | ((with_reducible refine gate_callee (f := 104) rfl ?_); refine goesL_ (some 31) rfl rfl Try.func104 (by kernel_rfl) rfl #[.slice Ao23 x6_1.length co23, .int .i64 0] rfl (by (try simp only [List.map_toArray, List.map_cons, List.map_nil]); first | done | rfl | (simp only [List.length_drop, List.length_take]; rfl)) ?_; (with_reducible refine (chicoryref03_Double.calls k1 _ _ x6_1 0 t382 _ ?side1 ?side2 A18.out).mono ?_); (case side1 => repeat (first | exact (Kd.R_reads' HO_6.out).2.2 | (with_reducible refine Kd.C_alloc ?_ _) | (with_reducible refine Kd.C_drewN ?_ _) | (with_reducible refine Kd.C_drew ?_))); (case side2 => exact (Kd.R_reads' HO_6.out).2.1); rintro e w24 ⟨v383, rfl, ho0, hb⟩; refine ⟨_, rfl, ?_⟩; have n0_ := Aside0.mk (Kd.R_elder' (by (with_reducible repeat (first | apply Kd.R_alloc | apply Kd.R_drewN | apply Kd.R_drew)); exact HO_6.out) (Kd.R_base ho0) hb); have n1_ := Aside0.mk (Kd.V_elder' (by (with_reducible repeat (first | apply Kd.V_alloc | apply Kd.V_drewN | apply Kd.V_drew)); exact HO_7.out) (Kd.R_base ho0) hb); have n2_ := Aside0.mk (Kd.R_elder' (by (with_reducible repeat (first | apply Kd.R_alloc | apply Kd.R_drewN | apply Kd.R_drew)); exact HO374.out) (Kd.R_base ho0) hb); have n3_ := Aside0.mk (Kd.R_lower (Kd.R_new' (Kd.R_new' (Kd.R_newM (M := fun k_ => (w.heap.size ≤ k_)) ho0 (below_size (by repeat (first | (with_reducible first | exact HB.out | apply below_alloc | apply pw_below_drewN | apply below_drew1) | exact HB.out))) (fun k_ h_ => h_)) (Kd.R_lt (by (with_reducible repeat (first | apply Kd.R_alloc | apply Kd.R_drewN | apply Kd.R_drew)); exact HO_6.out))) (Kd.R_lt (by (with_reducible repeat (first | apply Kd.R_alloc | apply Kd.R_drewN | apply Kd.R_drew)); exact HO374.out))) (below_size (by repeat (first | (with_reducible first | exact HB.out | apply below_alloc | apply pw_below_drewN | apply below_drew1) | exact HB.out)))); have n4_ := Aside0.mk (below_step (by repeat (first | (with_reducible first | exact HB.out | apply below_alloc | apply pw_below_drewN | apply below_drew1) | exact HB.out)) hb); clear HO_6; clear HO_7; clear HO374; clear HB; have HO_6 := n0_; have HO_7 := n1_; have HO374 := n2_; have HO384 := n3_; have HB := n4_; clear n0_ n1_ n2_ n3_ n4_; (try clear hb); (try clear hb2); (try clear hk); (try clear hi); (try clear ho0)))
          go_roundg k1
          case measure => have := HK1.out; omega
          case rel => exact ⟨(t382), (t372), (wrap64 (x8_1 - 1)), (by first | rfl | (simp; done) | (simp [*]; done)), H', ⟨by have := HK1.out; omega⟩, ⟨by (with_reducible repeat (first | apply Kd.R_alloc | apply Kd.R_drewN | apply Kd.R_drew)); exact Kd.R_mono HO384.out (fun _ hk => hk.1.1.1)⟩, ⟨Kd.R_V (by (with_reducible repeat (first | apply Kd.R_alloc | apply Kd.R_drewN | apply Kd.R_drew)); exact Kd.R_mono HO374.out (fun _ hk => ⟨hk.1.1.1, hk.2⟩))⟩, ⟨by repeat (first | (with_reducible first | exact HB.out | apply below_alloc | apply pw_below_drewN | apply below_drew1) | exact HB.out)⟩⟩
      · rw [if_neg c4] at H
        have c4b0 : decide (0 ≤ x8_1) = false := decide_eq_false c4
        clear c4
        replace H := Option.bind_eq_some_iff.mp H
        obtain ⟨t365, A250, H⟩ := H
        replace H : ((chicoryref03_Cut.f k1 x7_1).bind fun t368 => (some (t365, t368))) = some (r1, r2) := H
        have A25 := Aside0.mk A250
        clear A250
        replace H := Option.bind_eq_some_iff.mp H
        obtain ⟨t368, A260, H⟩ := H
        replace H : (some (t365, t368)) = some (r1, r2) := H
        have A26 := Aside0.mk A260
        clear A260
        simp only [Option.some.injEq, Prod.mk.injEq] at H
        obtain ⟨rfl, rfl⟩ := H
        obtain ⟨Ao27, co27, eo27⟩ := Kd.R_slice HO_6.out
        subst eo27
        go_wp2_with (first | ((with_reducible refine gate_callee (f := 88) rfl ?_); refine goesL_ (some 33) rfl rfl Try.func88 (by kernel_rfl) rfl #[.slice Ao27 x6_1.length co27] rfl (by (try simp only [List.map_toArray, List.map_cons, List.map_nil]); first | done | rfl | (simp only [List.length_drop, List.length_take]; rfl)) ?_; (with_reducible refine (chicoryref03_Cut.calls k1 (fun k_ => some k_ = (.slice Ao27 x6_1.length co27 : Value).ownBlock) _ _ x6_1 t365 _ ?side1 A25.out).mono ?_); (case side1 => exact Kd.R_V (Kd.R_tight rfl (HO_6.out))); rintro e w28 ⟨v366, rfl, ho0, hb⟩; refine ⟨_, rfl, ?_⟩; have n0_ := Aside0.mk (Kd.R_below (by (with_reducible repeat (first | apply Kd.R_alloc | apply Kd.R_drewN | apply Kd.R_drew)); exact HO_6.out) hb); have n1_ := Aside0.mk (Kd.V_below (by (with_reducible repeat (first | apply Kd.V_alloc | apply Kd.V_drewN | apply Kd.V_drew)); exact HO_7.out) hb); have n2_ := Aside0.mk (Kd.V_lower (Kd.V_mono (ok' := fun k_ => (w.heap.size ≤ k_)) ho0 (fun k_ hk_ => Or.elim hk_ (fun hs_ => ((HO_6.out).1 k_ hs_.symm)) (fun hn_ => (Nat.le_trans (below_size (by repeat (first | (with_reducible first | exact HB.out | apply below_alloc | apply pw_below_drewN | apply below_drew1) | exact HB.out))) hn_)))) (below_size (by repeat (first | (with_reducible first | exact HB.out | apply below_alloc | apply pw_below_drewN | apply below_drew1) | exact HB.out)))); have n3_ := Aside0.mk (below_step (by repeat (first | (with_reducible first | exact HB.out | apply below_alloc | apply pw_below_drewN | apply below_drew1) | exact HB.out)) hb); clear HO_6; clear HO_7; clear HB; have HO_6 := n0_; have HO_7 := n1_; have HO367 := n2_; have HB := n3_; clear n0_ n1_ n2_ n3_; (try clear hb); (try clear hb2); (try clear hk); (try clear hi); (try clear ho0); obtain ⟨Ao29, co29, eo29⟩ := Kd.V_slice HO_7.out; subst eo29) | ((with_reducible refine gate_callee (f := 88) rfl ?_); refine goesL_ (some 35) rfl rfl Try.func88 (by kernel_rfl) rfl #[.slice Ao29 x7_1.length co29] rfl (by (try simp only [List.map_toArray, List.map_cons, List.map_nil]); first | done | rfl | (simp only [List.length_drop, List.length_take]; rfl)) ?_; (with_reducible refine (chicoryref03_Cut.calls k1 (fun k_ => ((w.heap.size ≤ k_) ∧ some k_ ≠ (.slice Ao27 x6_1.length co27 : Value).ownBlock)) _ _ x7_1 t368 _ ?side1 A26.out).mono ?_); (case side1 => exact HO_7.out); rintro e w30 ⟨v369, rfl, ho0, hb⟩; refine ⟨_, rfl, ?_⟩; have n0_ := Aside0.mk (Kd.R_below (by (with_reducible repeat (first | apply Kd.R_alloc | apply Kd.R_drewN | apply Kd.R_drew)); exact HO_6.out) hb); have n1_ := Aside0.mk (Kd.V_below (by (with_reducible repeat (first | apply Kd.V_alloc | apply Kd.V_drewN | apply Kd.V_drew)); exact HO_7.out) hb); have n2_ := Aside0.mk (Kd.V_below (by (with_reducible repeat (first | apply Kd.V_alloc | apply Kd.V_drewN | apply Kd.V_drew)); exact HO367.out) hb); have n3_ := Aside0.mk (Kd.V_lower (Kd.V_mono (ok' := fun k_ => (w.heap.size ≤ k_) ∧ some k_ ≠ (.slice Ao27 x6_1.length co27 : Value).ownBlock) ho0 (fun k_ hk_ => ⟨Or.elim hk_ (fun hs_ => hs_.1) (fun hn_ => (Nat.le_trans (below_size (by repeat (first | (with_reducible first | exact HB.out | apply below_alloc | apply pw_below_drewN | apply below_drew1) | exact HB.out))) hn_)), Or.elim hk_ (fun hs_ => hs_.2) (fun hn_ => (Kd.fresh' (Kd.R_lt (by (with_reducible repeat (first | apply Kd.R_alloc | apply Kd.R_drewN | apply Kd.R_drew)); exact HO_6.out)) k_ hn_))⟩)) (below_size (by repeat (first | (with_reducible first | exact HB.out | apply below_alloc | apply pw_below_drewN | apply below_drew1) | exact HB.out)))); have n4_ := Aside0.mk (below_step (by repeat (first | (with_reducible first | exact HB.out | apply below_alloc | apply pw_below_drewN | apply below_drew1) | exact HB.out)) hb); clear HO_6; clear HO_7; clear HO367; clear HB; have HO_6 := n0_; have HO_7 := n1_; have HO367 := n2_; have HO370 := n3_; have HB := n4_; clear n0_ n1_ n2_ n3_ n4_; (try clear hb); (try clear hb2); (try clear hk); (try clear hi); (try clear ho0)))
        go_ret2
        exact ⟨_, _, by first | rfl | (simp [errW_none, errW_some] <;> rfl) | (simp [*, errW_none, errW_some] <;> rfl), by (with_reducible repeat (first | apply Kd.V_alloc | apply Kd.V_drewN | apply Kd.V_drew)); exact HO367.out, by (with_reducible repeat (first | apply Kd.V_alloc | apply Kd.V_drewN | apply Kd.V_drew)); exact Kd.V_mono HO370.out (fun _ hk => hk.1), by repeat (first | (with_reducible first | exact HB.out | apply below_alloc | apply pw_below_drewN | apply below_drew1) | exact HB.out)⟩
end Go.Proofs.Ytdaehflffecllaa.N
namespace Go.Proofs.Ytdaehflffecllaa.N
open Go.RowKit Go.Proofs.YtdaehflffecllaaW.PrintWords Go.Proofs.YtdaehflffecllaaW.PrintLast Go.Proofs.YtdaehflffecllaaW.PrintMore
attribute [local go_sem] max2_int min2_int max_two min_two max_three min_three max_four min_four   -- for this text's walks alone
set_option linter.unusedVariables false
set_option linter.unusedSimpArgs false
def chicoryref06_Reduce.f (k : Nat) (l0 : List Int) : Option (List Int) := (chicoryref03_Cut.f k l0).bind fun t1080 => ((chicoryref06_L.f k).bind fun t1083 => ((chicoryref03_Div.f k t1080 t1083).bind fun bt1086 => (some bt1086.2)))
set_option maxHeartbeats 8000000 in
set_option maxRecDepth 100000 in
theorem chicoryref06_Reduce.calls (k : Nat) (P0_ : Nat → Prop) (A0 : Option Addr) (c0 : Nat) (l0 : List Int) (r : List Int) (w : World) (hs0 : Kd.V (Kd.int .u8) 5 w w.heap.size (fun k_ => P0_ k_) (.slice A0 l0.length c0) l0) (h : chicoryref06_Reduce.f k l0 = some r) :
    Calls Try.prog 86 #[.slice A0 l0.length c0] w fun e w' => ∃ v0_ : Value, e = .returned (v0_) ∧ Kd.V (Kd.int .u8) 5 w' w.heap.size (fun k_ => (P0_ k_ ∨ w.heap.size ≤ k_)) v0_ r ∧ Below w.heap.size w w' := by
  have HO0 := Aside0.mk (show Kd.V (Kd.int .u8) 5 w w.heap.size (fun k_ => (P0_ k_ ∨ w.heap.size ≤ k_)) (.slice A0 l0.length c0) l0 from Kd.V_mono hs0 (fun k_ hk => .inl hk))
  have HB := Aside0.mk (Below.refl w.heap.size w)
  have H : ((chicoryref03_Cut.f k l0).bind fun t1080 => ((chicoryref06_L.f k).bind fun t1083 => ((chicoryref03_Div.f k t1080 t1083).bind fun bt1086 => (some bt1086.2)))) = some r := h
  clear h
  replace H := Option.bind_eq_some_iff.mp H
  obtain ⟨t1080, A20, H⟩ := H
  replace H : ((chicoryref06_L.f k).bind fun t1083 => ((chicoryref03_Div.f k t1080 t1083).bind fun bt1086 => (some bt1086.2))) = some r := H
  have A2 := Aside0.mk A20
  clear A20
  replace H := Option.bind_eq_some_iff.mp H
  obtain ⟨t1083, A30, H⟩ := H
  replace H : ((chicoryref03_Div.f k t1080 t1083).bind fun bt1086 => (some bt1086.2)) = some r := H
  have A3 := Aside0.mk A30
  clear A30
  replace H := Option.bind_eq_some_iff.mp H
  obtain ⟨⟨t1086, t1089⟩, A40, H⟩ := H
  replace H : (some t1089) = some r := H
  have A4 := Aside0.mk A40
  clear A40
  obtain rfl := Option.some.inj H
  go_enter Try.func86, Try.ntmps86
  go_wp2_with (first | ((with_reducible refine gate_callee (f := 88) rfl ?_); refine goesL_ (some 7) rfl rfl Try.func88 (by kernel_rfl) rfl #[.slice A0 l0.length c0] rfl (by (try simp only [List.map_toArray, List.map_cons, List.map_nil]); first | done | rfl | (simp only [List.length_drop, List.length_take]; rfl)) ?_; (with_reducible refine (chicoryref03_Cut.calls k (fun k_ => (P0_ k_ ∨ w.heap.size ≤ k_)) _ _ l0 t1080 _ ?side1 A2.out).mono ?_); (case side1 => exact HO0.out); rintro e w5 ⟨v1081, rfl, ho0, hb⟩; refine ⟨_, rfl, ?_⟩; have n0_ := Aside0.mk (Kd.V_below (by (with_reducible repeat (first | apply Kd.V_alloc | apply Kd.V_drewN | apply Kd.V_drew)); exact HO0.out) hb); have n1_ := Aside0.mk (Kd.V_lower (Kd.V_mono (ok' := fun k_ => (P0_ k_ ∨ w.heap.size ≤ k_)) ho0 (fun k_ hk_ => Or.elim hk_ (fun hs_ => hs_) (fun hn_ => (.inr (Nat.le_trans (below_size (by repeat (first | (with_reducible first | exact HB.out | apply below_alloc | apply pw_below_drewN | apply below_drew1) | exact HB.out))) hn_))))) (below_size (by repeat (first | (with_reducible first | exact HB.out | apply below_alloc | apply pw_below_drewN | apply below_drew1) | exact HB.out)))); have n2_ := Aside0.mk (below_step (by repeat (first | (with_reducible first | exact HB.out | apply below_alloc | apply pw_below_drewN | apply below_drew1) | exact HB.out)) hb); clear HO0; clear HB; have HO0 := n0_; have HO1082 := n1_; have HB := n2_; clear n0_ n1_ n2_; (try clear hb); (try clear hb2); (try clear hk); (try clear hi); (try clear ho0)) | ((with_reducible refine gate_callee (f := 85) rfl ?_); refine goesL_ (some 8) rfl rfl Try.func85 (by kernel_rfl) rfl #[] rfl (by (try simp only [List.map_toArray, List.map_cons, List.map_nil]); first | done | rfl | (simp only [List.length_drop, List.length_take]; rfl)) ?_; (with_reducible refine (chicoryref06_L.calls k  t1083 _ A3.out).mono ?_); rintro e w6 ⟨v1084, rfl, ho0, hb⟩; refine ⟨_, rfl, ?_⟩; have n0_ := Aside0.mk (Kd.V_below (by (with_reducible repeat (first | apply Kd.V_alloc | apply Kd.V_drewN | apply Kd.V_drew)); exact HO0.out) hb); have n1_ := Aside0.mk (Kd.V_below (by (with_reducible repeat (first | apply Kd.V_alloc | apply Kd.V_drewN | apply Kd.V_drew)); exact HO1082.out) hb); have n2_ := Aside0.mk (Kd.V_lower (Kd.V_mono (ok' := fun k_ => (P0_ k_ ∨ w.heap.size ≤ k_)) ho0 (fun k_ hk_ => (.inr (Nat.le_trans (below_size (by repeat (first | (with_reducible first | exact HB.out | apply below_alloc | apply pw_below_drewN | apply below_drew1) | exact HB.out))) hk_)))) (below_size (by repeat (first | (with_reducible first | exact HB.out | apply below_alloc | apply pw_below_drewN | apply below_drew1) | exact HB.out)))); have n3_ := Aside0.mk (below_step (by repeat (first | (with_reducible first | exact HB.out | apply below_alloc | apply pw_below_drewN | apply below_drew1) | exact HB.out)) hb); clear HO0; clear HO1082; clear HB; have HO0 := n0_; have HO1082 := n1_; have HO1085 := n2_; have HB := n3_; clear n0_ n1_ n2_ n3_; (try clear hb); (try clear hb2); (try clear hk); (try clear hi); (try clear ho0); obtain ⟨Ao7, co7, eo7⟩ := Kd.V_slice HO1082.out; subst eo7; obtain ⟨Ao8, co8, eo8⟩ := Kd.V_slice HO1085.out; subst eo8) | ((with_reducible refine gate_callee (f := 55) rfl ?_); refine goesL_ (some 9) rfl rfl Try.func55 (by kernel_rfl) rfl #[.slice Ao7 t1080.length co7, .slice Ao8 t1083.length co8] rfl (by (try simp only [List.map_toArray, List.map_cons, List.map_nil]); first | done | rfl | (simp only [List.length_drop, List.length_take]; rfl)) ?_; (with_reducible refine (chicoryref03_Div.calls k _ _ t1080 _ _ t1083 t1086 t1089 _ ?side1 ?side2 ?side3 ?side4 A4.out).mono ?_); (case side1 => repeat (first | exact (Kd.V_reads' HO1082.out).2.2 | (with_reducible refine Kd.C_alloc ?_ _) | (with_reducible refine Kd.C_drewN ?_ _) | (with_reducible refine Kd.C_drew ?_))); (case side2 => exact (Kd.V_reads' HO1082.out).2.1); (case side3 => repeat (first | exact (Kd.V_reads' HO1085.out).2.2 | (with_reducible refine Kd.C_alloc ?_ _) | (with_reducible refine Kd.C_drewN ?_ _) | (with_reducible refine Kd.C_drew ?_))); (case side4 => exact (Kd.V_reads' HO1085.out).2.1); rintro e w9 ⟨v1087, v1090, rfl, ho0, ho1, hb⟩; refine ⟨_, rfl, ?_⟩; have n0_ := Aside0.mk (Kd.V_below (by (with_reducible repeat (first | apply Kd.V_alloc | apply Kd.V_drewN | apply Kd.V_drew)); exact HO0.out) hb); have n1_ := Aside0.mk (Kd.V_below (by (with_reducible repeat (first | apply Kd.V_alloc | apply Kd.V_drewN | apply Kd.V_drew)); exact HO1082.out) hb); have n2_ := Aside0.mk (Kd.V_below (by (with_reducible repeat (first | apply Kd.V_alloc | apply Kd.V_drewN | apply Kd.V_drew)); exact HO1085.out) hb); have n3_ := Aside0.mk (Kd.V_lower (Kd.V_mono (ok' := fun k_ => (P0_ k_ ∨ w.heap.size ≤ k_)) ho0 (fun k_ hk_ => (.inr (Nat.le_trans (below_size (by repeat (first | (with_reducible first | exact HB.out | apply below_alloc | apply pw_below_drewN | apply below_drew1) | exact HB.out))) hk_)))) (below_size (by repeat (first | (with_reducible first | exact HB.out | apply below_alloc | apply pw_below_drewN | apply below_drew1) | exact HB.out)))); have n4_ := Aside0.mk (Kd.V_lower (Kd.V_mono (ok' := fun k_ => (P0_ k_ ∨ w.heap.size ≤ k_)) ho1 (fun k_ hk_ => (.inr (Nat.le_trans (below_size (by repeat (first | (with_reducible first | exact HB.out | apply below_alloc | apply pw_below_drewN | apply below_drew1) | exact HB.out))) hk_)))) (below_size (by repeat (first | (with_reducible first | exact HB.out | apply below_alloc | apply pw_below_drewN | apply below_drew1) | exact HB.out)))); have n5_ := Aside0.mk (below_step (by repeat (first | (with_reducible first | exact HB.out | apply below_alloc | apply pw_below_drewN | apply below_drew1) | exact HB.out)) hb); clear HO0; clear HO1082; clear HO1085; clear HB; have HO0 := n0_; have HO1082 := n1_; have HO1085 := n2_; have HO1088 := n3_; have HO1091 := n4_; have HB := n5_; clear n0_ n1_ n2_ n3_ n4_ n5_; (try clear hb); (try clear hb2); (try clear hk); (try clear hi); (try clear ho0); (try clear ho1)))
  go_ret
  exact ⟨_, by first | rfl | (simp [errW_none, errW_some] <;> rfl) | (simp [*, errW_none, errW_some] <;> rfl), by (with_reducible repeat (first | apply Kd.V_alloc | apply Kd.V_drewN | apply Kd.V_drew)); exact HO1091.out, by repeat (first | (with_reducible first | exact HB.out | apply below_alloc | apply pw_below_drewN | apply below_drew1) | exact HB.out)⟩
def chicoryref06_Bytes.l0 : Nat → List Int → Option (List Int)
  | 0, _ => none
  | k + 1, x3 => if (x3.length : Int) < 57 then (if x3.length < 140737488355328 then (chicoryref06_Bytes.l0 k (x3 ++ [0])) else (none)) else (some x3)
def chicoryref06_Bytes.f (k : Nat) (l0 : List Int) : Option (List Int) := if ([] : List Int).length + l0.length < 140737488355328 then (chicoryref06_Bytes.l0 k (([] : List Int) ++ l0)) else (none)
set_option maxHeartbeats 8000000 in
set_option maxRecDepth 100000 in
theorem chicoryref06_Bytes.calls (k : Nat) (A0 : Option Addr) (c0 : Nat) (l0 : List Int) (r : List Int) (w : World) (hr0 : Kd.C (Kd.int .u8) w A0 l0.length l0) (hc0 : l0.length ≤ c0) (h : chicoryref06_Bytes.f k l0 = some r) :
    Calls Try.prog 84 #[.slice A0 l0.length c0] w fun e w' => ∃ v0_ : Value, e = .returned (v0_) ∧ Kd.R (Kd.int .u8) 5 w' w.heap.size (fun _ => True) v0_ r ∧ Below w.heap.size w w' := by
  have HR0 := Aside0.mk hr0
  have HC0 := Aside0.mk hc0
  clear hr0 hc0
  have HB := Aside0.mk (Below.refl w.heap.size w)
  have H : (if ([] : List Int).length + l0.length < 140737488355328 then (chicoryref06_Bytes.l0 k (([] : List Int) ++ l0)) else (none)) = some r := h
  clear h
  by_cases c2 : ([] : List Int).length + l0.length < 140737488355328
  · rw [if_pos c2] at H
    have LMc2 := Aside0.mk c2
    clear c2
    obtain ⟨y1099, hy1099⟩ : ∃ y_ : List Int, y_ = (([] : List Int) ++ l0) := ⟨_, rfl⟩
    replace H : (chicoryref06_Bytes.l0 k y1099) = some r := by first | (rw [hy1099]; with_reducible exact H) | (have H2_ := (Option.bind_some _ _).symm.trans H; rw [hy1099]; with_reducible exact H2_) | (have H2_ := (Option.bind_some _ _).symm.trans H; with_reducible exact H2_) | with_reducible exact H | (rw [hy1099]; exact H) | exact H
    have Ny1099 := Aside0.mk hy1099
    clear hy1099
    have H' := Aside0.mk H
    clear H
    go_enter Try.func84, Try.ntmps84
    go_wp2_with (first | ((with_reducible refine gate_builtin (b := .append) (xs := #[.tmp 4, .tmp 5]) rfl ?_); at_builtin; refine Kd.R_append_rows (Kd.int .u8) (w0 := w) w.heap.size rfl (.tmp 4) (.tmp 5) 22 5 (.int .u8 0) 1 rfl Try.underlying22 info5 rfl (by decide) (by omega) (.slice none 0 0) ([] : List Int) l0 _ _ _ (fun _ => True) (fun _ => False) rfl rfl ?aO ?aR (fun _ _ h => h) (fun _ h => h.elim) ?aF ?aB ?aS ?aL ?_; (case aR => repeat (first | exact HR0.out | (with_reducible refine Kd.C_alloc ?_ _) | (with_reducible refine Kd.C_drewN ?_ _) | (with_reducible refine Kd.C_drew ?_))); (case aB => exact (by repeat (first | (with_reducible first | exact HB.out | apply below_alloc | apply pw_below_drewN | apply below_drew1) | exact HB.out))); (case aF => exact (fun _ _ => trivial)); (case aO => exact ((Kd.R_nil _ _ _ _ (fun _ => True)))); (case aS => exact (below_size (by repeat (first | (with_reducible first | exact HB.out | apply below_alloc | apply pw_below_drewN | apply below_drew1) | exact HB.out)))); (case aL => have := LMc2.out; omega); intro v1100 w3 ho hb hg hat; rw [← Ny1099.out] at ho; have n0_ := Aside0.mk (hb); have n1_ := Aside0.mk (ho); clear HB; have HB := n0_; have HO1101 := n1_; clear n0_ n1_; clear ho hb hg hat))
    go_loopg [3] k (fun kq v3 w' => ∃ (x3_1 : List Int), Aside0 (chicoryref06_Bytes.l0 kq x3_1 = some r) ∧ Aside0 (kq ≤ k) ∧ Aside0 (Kd.R (Kd.int .u8) 5 w' w.heap.size (fun _ => True) v3 x3_1) ∧ Aside0 (Below w.heap.size w w'))
    case atStart => exact ⟨(y1099), H', ⟨Nat.le_refl _⟩, ⟨by (with_reducible repeat (first | apply Kd.R_alloc | apply Kd.R_drewN | apply Kd.R_drew)); exact HO1101.out⟩, ⟨by repeat (first | (with_reducible first | exact HB.out | apply below_alloc | apply pw_below_drewN | apply below_drew1) | exact HB.out)⟩⟩
    case round =>
      clear H'
      try clear c2
      try clear p2
      obtain ⟨x3_1, HA, HK1, HO_3, HB⟩ := hrel
      cases gk with
      | zero => exact absurd HA.out (by simp [chicoryref06_Bytes.l0])
      | succ k1 =>
        have H := HA.out
        clear HA
        simp only [chicoryref06_Bytes.l0] at H
        by_cases c4 : (x3_1.length : Int) < 57
        · rw [if_pos c4] at H
          have c4b0 : decide ((x3_1.length : Int) < 57) = true := decide_eq_true c4
          have c4b1 : decide (x3_1.length < 57) = true := decide_eq_true (by omega)
          clear c4
          by_cases c5 : x3_1.length < 140737488355328
          · rw [if_pos c5] at H
            have LMc5 := Aside0.mk c5
            clear c5
            obtain ⟨y1102, hy1102⟩ : ∃ y_ : List Int, y_ = (x3_1 ++ [0]) := ⟨_, rfl⟩
            replace H : (chicoryref06_Bytes.l0 k1 y1102) = some r := by first | (rw [hy1102]; with_reducible exact H) | (have H2_ := (Option.bind_some _ _).symm.trans H; rw [hy1102]; with_reducible exact H2_) | (have H2_ := (Option.bind_some _ _).symm.trans H; with_reducible exact H2_) | with_reducible exact H | (rw [hy1102]; exact H) | exact H
            have Ny1102 := Aside0.mk hy1102
            clear hy1102
            have H' := Aside0.mk H
            clear H
            obtain ⟨Ao6, co6, eo6⟩ := Kd.R_slice HO_3.out
            subst eo6
            go_wp2_with (first | ((with_reducible refine gate_builtin (b := .append) (xs := #[.tmp 10, .tmp 11]) rfl ?_); at_builtin; refine Kd.R_append (Kd.int .u8) (w0 := w) w.heap.size rfl (.tmp 10) (.tmp 11) 22 5 (.int .u8 0) 1 rfl Try.underlying22 info5 rfl (by decide) (by omega) (.slice Ao6 x3_1.length co6) x3_1 0 [.int .u8 0] (fun _ => True) (fun _ => False) rfl rfl ?aP (fun _ hk => hk.elim) ?aF ?aO ?aB ?aS ?aL ?_; (case aP => exact rfl); (case aB => exact (by repeat (first | (with_reducible first | exact HB.out | apply below_alloc | apply pw_below_drewN | apply below_drew1) | exact HB.out))); (case aF => exact (fun _ _ => trivial)); (case aO => exact (by (with_reducible repeat (first | apply Kd.R_alloc | apply Kd.R_drewN | apply Kd.R_drew)); exact HO_3.out)); (case aS => exact (below_size (by repeat (first | (with_reducible first | exact HB.out | apply below_alloc | apply pw_below_drewN | apply below_drew1) | exact HB.out)))); (case aL => have := LMc5.out; omega); intro v1103 w7 ho hb hg hat; rw [← Ny1102.out] at ho; have n0_ := Aside0.mk (hb); have n1_ := Aside0.mk (ho); clear HB; clear HO_3; have HB := n0_; have HO1104 := n1_; clear n0_ n1_; clear ho hb hg hat))
            go_roundg k1
            case measure => have := HK1.out; omega
            case rel => exact ⟨(y1102), H', ⟨by have := HK1.out; omega⟩, ⟨by (with_reducible repeat (first | apply Kd.R_alloc | apply Kd.R_drewN | apply Kd.R_drew)); exact HO1104.out⟩, ⟨by repeat (first | (with_reducible first | exact HB.out | apply below_alloc | apply pw_below_drewN | apply below_drew1) | exact HB.out)⟩⟩
          · rw [if_neg c5] at H
            exact absurd H (by simp)
        · rw [if_neg c4] at H
          have c4b0 : decide ((x3_1.length : Int) < 57) = false := decide_eq_false c4
          have c4b1 : decide (x3_1.length < 57) = false := decide_eq_false (by omega)
          clear c4
          obtain rfl := Option.some.inj H
          obtain ⟨Ao8, co8, eo8⟩ := Kd.R_slice HO_3.out
          subst eo8
          go_wp2
          go_ret
          exact ⟨_, by first | rfl | (simp [errW_none, errW_some] <;> rfl) | (simp [*, errW_none, errW_some] <;> rfl), by (with_reducible repeat (first | apply Kd.R_alloc | apply Kd.R_drewN | apply Kd.R_drew)); exact HO_3.out, by repeat (first | (with_reducible first | exact HB.out | apply below_alloc | apply pw_below_drewN | apply below_drew1) | exact HB.out)⟩
  · rw [if_neg c2] at H
    exact absurd H (by simp)
def scalar_Scalar_nat.f (a0_0 : List Int) : Option (List Int) := some (l7 a0_0)
set_option maxHeartbeats 8000000 in
set_option maxRecDepth 100000 in
theorem slices_Clone_words.calls (A0 : Option Addr) (c0 : Nat) (l0 : List Int) (w : World) (hr0 : Kd.C (Kd.int .u64) w A0 l0.length l0) (hc0 : l0.length ≤ c0) (hl : 0 < l0.length) (h8 : l0.length ≤ 1000) :
    Calls Try.prog 115 #[.slice A0 l0.length c0] w fun e w' => ∃ v0_ : Value, e = .returned (v0_) ∧ Kd.R (Kd.int .u64) 62 w' w.heap.size (fun _ => True) v0_ l0 ∧ Below w.heap.size w w' := by
  have HR0 := Aside0.mk hr0
  have HL := Aside0.mk h8
  obtain ⟨ad, _, e, _⟩ := Kd.C_get hr0 (0 : Int) 0 (by omega) (by omega)
  subst e
  clear hr0
  have q22 : ∀ (w : World) (a : Option Addr) (n c n' c' : Nat), (binOp .eql 34 (.slice a n c) (.slice none n' c')).run Try.prog w = .ok (.bool a.isNone) w := fun w a n c n' c' => Lib.run_eql_slice_nil w _ _ a n c n' c' Try.underlying34
  go_enter Try.func115, Try.ntmps115
  go_wp2_with (first | ((with_reducible refine gate_builtin (b := .append) (xs := #[.tmp 5, .tmp 6]) rfl ?_); at_builtin; refine Kd.R_append_rows (Kd.int .u64) (w0 := w) w.heap.size rfl (.tmp 5) (.tmp 6) 34 62 (.int .u64 0) 8 rfl Try.underlying34 info62 rfl (by decide) (by omega) _ ([] : List Int) l0 _ _ _ (fun _ => True) (fun _ => False) rfl rfl ?aO ?aR (fun _ _ h => h) (fun _ h => h.elim) ?aF ?aB ?aS ?aL ?_))
  case aO => exact Kd.R_of_own (enc := Value.int .u64) (h1 := fun _ => rfl) (xs := []) (World.ownsRow_made w #[] 0 (Nat.le_refl _) (Nat.zero_le _) rfl) (fun _ _ => trivial)
  case aR => exact Kd.C_alloc HR0.out _
  case aF => exact fun _ _ => trivial
  case aB => exact below_alloc (Below.refl _ _) _
  case aS => simp
  case aL => have := HL.out; simp; omega
  intro v1 w3 ho hb hg hat
  go_wp2
  go_ret
  exact ⟨_, rfl, ho, hb⟩
set_option maxHeartbeats 8000000 in
set_option maxRecDepth 100000 in
theorem scalar_Scalar_nat.calls (a0_0 : List Int) (r : List Int) (w : World) (h : scalar_Scalar_nat.f a0_0 = some r) :
    Calls Try.prog 107 #[.agg (sv a0_0)] w fun e w' => ∃ v0_ : Value, e = .returned (v0_) ∧ Kd.R (Kd.int .u64) 62 w' w.heap.size (fun _ => True) v0_ r ∧ Below w.heap.size w w' := by
  obtain rfl := Option.some.inj h
  have hu71 := Try.underlying71
  have hu73 := Try.underlying73
  have HB := Aside0.mk (Below.refl w.heap.size w)
  go_enter Try.func107, Try.ntmps107
  go_wp2_with (first | ((with_reducible refine gate_dst (N := 1) rfl ?_); refine box_event ?hg (N := 1) ?hd (cs := sv a0_0) (t := 73) ?hr ?_; (case hd => rfl); (case hg => rfl); (case hr => first | (go_simp; done) | (go_simp; rfl)); intro gb hg w4 hbox hb; clear hg; have BK := Aside0.mk hbox; have HB1 := Aside0.mk hb; clear hbox hb) | ((with_reducible refine gate_callee (f := 115) rfl ?_); refine goesL_ (some 5) rfl rfl Try.func115 (by kernel_rfl) rfl #[.slice (some ⟨gb, 0, none⟩) 7 7] rfl (by (try simp only [List.map_toArray, List.map_cons, List.map_nil]); first | done | rfl) ?_; (refine (slices_Clone_words.calls (some ⟨gb, 0, none⟩) 7 (l7 a0_0) _ (C_sv BK.out) (Nat.le_refl 7) (Nat.succ_pos 6) (show 7 ≤ 1000 by omega)).mono ?_); rintro e w5 ⟨v1, rfl, ho, hb⟩; refine ⟨_, rfl, ?_⟩))
  go_ret
  exact ⟨_, rfl, Kd.R_lower ho (below_size HB1.out), below_step HB1.out hb⟩
def scalar_Bytes.f (k : Nat) (a0_0 : List Int) : Option (List Int) := (scalar_Scalar_nat.f a0_0).bind fun t1109 => ((number_Bytes.f k t1109 57).bind fun bt1112 => (some bt1112.1))
theorem scalar_Bytes.mono : ∀ a0 k, LeO (scalar_Bytes.f k a0) (scalar_Bytes.f (k + 1) a0) := by
  intro a0 k
  unfold scalar_Bytes.f
  repeat' first
      | (with_reducible exact number_Bytes.mono _ _ _)
      | (with_reducible exact LeO.refl _)
      | (with_reducible exact LeO.none _)
      | (with_reducible refine LeO.ite ?_ ?_)
      | (with_reducible refine LeO.bind ?_ (fun _ => ?_))
      | exact number_Bytes.mono _ _ _
      | exact LeO.none _
      | refine LeO.ite ?_ ?_
      | refine LeO.bind ?_ (fun _ => ?_)
set_option maxHeartbeats 8000000 in
set_option maxRecDepth 100000 in
theorem scalar_Bytes.calls (k : Nat) (a0_0 : List Int) (r : List Int) (w : World) (h : scalar_Bytes.f k a0_0 = some r) :
    Calls Try.prog 89 #[.agg (sv a0_0)] w fun e w' => ∃ v0_ : Value, e = .returned (v0_) ∧ Kd.R (Kd.int .u8) 5 w' w.heap.size (fun _ => True) v0_ r ∧ Below w.heap.size w w' := by
  have hu73 := Try.underlying73
  have HB := Aside0.mk (Below.refl w.heap.size w)
  have H : ((scalar_Scalar_nat.f a0_0).bind fun t1109 => ((number_Bytes.f k t1109 57).bind fun bt1112 => (some bt1112.1))) = some r := h
  clear h
  replace H := Option.bind_eq_some_iff.mp H
  obtain ⟨t1109, A20, H⟩ := H
  replace H : ((number_Bytes.f k t1109 57).bind fun bt1112 => (some bt1112.1)) = some r := H
  have A2 := Aside0.mk A20
  clear A20
  replace H := Option.bind_eq_some_iff.mp H
  obtain ⟨⟨t1112, t1113⟩, A30, H⟩ := H
  replace H : (some t1112) = some r := H
  have A3 := Aside0.mk A30
  clear A30
  obtain rfl := Option.some.inj H
  go_enter Try.func89, Try.ntmps89
  go_wp2_with (first | ((with_reducible refine gate_dst (N := 1) rfl ?_); refine box_event ?hg (N := 1) ?hd (cs := (sv a0_0)) (t := 73) ?hr ?_; (case hd => rfl); (case hg => rfl); (case hr => first | (go_simp; done) | (go_simp; rfl)); intro gb1108 hg w4 hbox hb; have n0_ := Aside0.mk (below_step (by repeat (first | (with_reducible first | exact HB.out | apply below_alloc | apply pw_below_drewN | apply below_drew1) | exact HB.out)) hb); have n1_ := Aside0.mk (hbox); have n2_ := Aside0.mk ((by rw [hg]; exact (below_size (by repeat (first | (with_reducible first | exact HB.out | apply below_alloc | apply pw_below_drewN | apply below_drew1) | exact HB.out))) : w.heap.size ≤ gb1108)); have n3_ := Aside0.mk ((by rw [hg]; exact (below_size (by repeat (first | (with_reducible first | exact HB.out | apply below_alloc | apply pw_below_drewN | apply below_drew1) | exact HB.out))) : w.heap.size ≤ gb1108)); clear HB; have HB := n0_; have BK1108 := n1_; have GW1108 := n2_; have GE1108 := n3_; clear n0_ n1_ n2_ n3_; clear hb hbox hg; obtain ⟨hcz5_0, hcz5_0_c1, hcz5_0_c2, hcz5_0_c3, hcz5_0_c4, hcz5_0_c5, hcz5_0_c6⟩ := c7_of (a := a0_0) BK1108.out rfl; obtain ⟨hfz5_0, hfz5_0_c1, hfz5_0_c2, hfz5_0_c3, hfz5_0_c4, hfz5_0_c5, hfz5_0_c6⟩ := fz7 BK1108.out) | ((with_reducible refine gate_callee (f := 107) rfl ?_); refine goesL_ (some 7) rfl rfl Try.func107 (by kernel_rfl) rfl #[.agg (sv a0_0)] rfl (by (try simp only [List.map_toArray, List.map_cons, List.map_nil]); first | done | rfl | (simp only [List.length_drop, List.length_take]; rfl)) ?_; (with_reducible refine (scalar_Scalar_nat.calls a0_0 t1109 _ A2.out).mono ?_); rintro e w6 ⟨v1110, rfl, ho0, hb⟩; refine ⟨_, rfl, ?_⟩; have n0_ := Aside0.mk (Kd.R_lower ho0 (below_size (by repeat (first | (with_reducible first | exact HB.out | apply below_alloc | apply pw_below_drewN | apply below_drew1 | refine below_set ?_ GE1108.out) | exact HB.out)))); have n1_ := Aside0.mk (blk_below (g := gb1108) (o := .cells (sv a0_0) 73 (0, 0)) (by (with_reducible repeat (first | refine blk_drewN ?_ _ | refine blk_drew ?_ | refine blk_alloc ?_ _)); exact BK1108.out) hb); have n2_ := Aside0.mk (below_step (by repeat (first | (with_reducible first | exact HB.out | apply below_alloc | apply pw_below_drewN | apply below_drew1 | refine below_set ?_ GE1108.out) | exact HB.out)) hb); clear BK1108; clear HB; have HO1111 := n0_; have BK1108 := n1_; have HB := n2_; clear n0_ n1_ n2_; (try clear hb); (try clear hb2); (try clear hk); (try clear hi); (try clear ho0); obtain ⟨Ao7, co7, eo7⟩ := Kd.R_slice HO1111.out; subst eo7) | ((with_reducible refine gate_callee (f := 59) rfl ?_); refine goesL_ (some 8) rfl rfl Try.func59 (by kernel_rfl) rfl #[.slice Ao7 t1109.length co7, .int .i64 57] rfl (by (try simp only [List.map_toArray, List.map_cons, List.map_nil]); first | done | rfl | (simp only [List.length_drop, List.length_take]; rfl)) ?_; (with_reducible refine (number_Bytes.calls k _ _ t1109 57 t1112 t1113 _ ?side1 ?side2 A3.out).mono ?_); (case side1 => repeat (first | exact (Kd.R_reads' HO1111.out).2.2 | (with_reducible refine Kd.C_alloc ?_ _) | (with_reducible refine Kd.C_drewN ?_ _) | (with_reducible refine Kd.C_drew ?_))); (case side2 => exact (Kd.R_reads' HO1111.out).2.1); rintro e w8 ⟨v1114, rfl, ho0, hb⟩; refine ⟨_, rfl, ?_⟩; have n0_ := Aside0.mk (Kd.R_below (by (with_reducible repeat (first | apply Kd.R_alloc | apply Kd.R_drewN | apply Kd.R_drew)); exact HO1111.out) hb); have n1_ := Aside0.mk (Kd.R_lower ho0 (below_size (by repeat (first | (with_reducible first | exact HB.out | apply below_alloc | apply pw_below_drewN | apply below_drew1 | refine below_set ?_ GE1108.out) | exact HB.out)))); have n2_ := Aside0.mk (blk_below (g := gb1108) (o := .cells (sv a0_0) 73 (0, 0)) (by (with_reducible repeat (first | refine blk_drewN ?_ _ | refine blk_drew ?_ | refine blk_alloc ?_ _)); exact BK1108.out) hb); have n3_ := Aside0.mk (below_step (by repeat (first | (with_reducible first | exact HB.out | apply below_alloc | apply pw_below_drewN | apply below_drew1 | refine below_set ?_ GE1108.out) | exact HB.out)) hb); clear HO1111; clear BK1108; clear HB; have HO1111 := n0_; have HO1115 := n1_; have BK1108 := n2_; have HB := n3_; clear n0_ n1_ n2_ n3_; (try clear hb); (try clear hb2); (try clear hk); (try clear hi); (try clear ho0)))
  go_ret
  exact ⟨_, by first | rfl | (simp [errW_none, errW_some] <;> rfl) | (simp [*, errW_none, errW_some] <;> rfl), by (with_reducible repeat (first | apply Kd.R_alloc | apply Kd.R_drewN | apply Kd.R_drew)); exact HO1115.out, by repeat (first | (with_reducible first | exact HB.out | apply below_alloc | apply pw_below_drewN | apply below_drew1 | refine below_set ?_ GE1108.out) | exact HB.out)⟩
def chicorylaw06_Is.f (k : Nat) (a0_0 : List Int) (l1 : List Int) : Option (Bool) := (scalar_Bytes.f k a0_0).bind fun t1117 => ((chicoryref06_Bytes.f k l1).bind fun t1120 => ((chicorylaw01_Bytes.f k t1117 t1120).bind fun t1123 => (some t1123)))
set_option maxHeartbeats 8000000 in
set_option maxRecDepth 100000 in
theorem chicorylaw06_Is.calls (k : Nat) (a0_0 : List Int) (A1 : Option Addr) (c1 : Nat) (l1 : List Int) (r : Bool) (w : World) (hr1 : Kd.C (Kd.int .u8) w A1 l1.length l1) (hc1 : l1.length ≤ c1) (h : chicorylaw06_Is.f k a0_0 l1 = some r) :
    Calls Try.prog 63 #[.agg (sv a0_0), .slice A1 l1.length c1] w fun e w' => e = .returned (.bool r) ∧ Below w.heap.size w w' := by
  have hu73 := Try.underlying73
  have HR1 := Aside0.mk hr1
  have HC1 := Aside0.mk hc1
  clear hr1 hc1
  have HB := Aside0.mk (Below.refl w.heap.size w)
  have H : ((scalar_Bytes.f k a0_0).bind fun t1117 => ((chicoryref06_Bytes.f k l1).bind fun t1120 => ((chicorylaw01_Bytes.f k t1117 t1120).bind fun t1123 => (some t1123)))) = some r := h
  clear h
  replace H := Option.bind_eq_some_iff.mp H
  obtain ⟨t1117, A30, H⟩ := H
  replace H : ((chicoryref06_Bytes.f k l1).bind fun t1120 => ((chicorylaw01_Bytes.f k t1117 t1120).bind fun t1123 => (some t1123))) = some r := H
  have A3 := Aside0.mk A30
  clear A30
  replace H := Option.bind_eq_some_iff.mp H
  obtain ⟨t1120, A40, H⟩ := H
  replace H : ((chicorylaw01_Bytes.f k t1117 t1120).bind fun t1123 => (some t1123)) = some r := H
  have A4 := Aside0.mk A40
  clear A40
  replace H := Option.bind_eq_some_iff.mp H
  obtain ⟨t1123, A50, H⟩ := H
  replace H : (some t1123) = some r := H
  have A5 := Aside0.mk A50
  clear A50
  obtain rfl := Option.some.inj H
  go_enter Try.func63, Try.ntmps63
  go_wp2_with (first | ((with_reducible refine gate_dst (N := 2) rfl ?_); refine box_event ?hg (N := 2) ?hd (cs := (sv a0_0)) (t := 73) ?hr ?_; (case hd => rfl); (case hg => rfl); (case hr => first | (go_simp; done) | (go_simp; rfl)); intro gb1116 hg w6 hbox hb; have n0_ := Aside0.mk (below_step (by repeat (first | (with_reducible first | exact HB.out | apply below_alloc | apply pw_below_drewN | apply below_drew1) | exact HB.out)) hb); have n1_ := Aside0.mk (hbox); have n2_ := Aside0.mk ((by rw [hg]; exact (below_size (by repeat (first | (with_reducible first | exact HB.out | apply below_alloc | apply pw_below_drewN | apply below_drew1) | exact HB.out))) : w.heap.size ≤ gb1116)); have n3_ := Aside0.mk ((by rw [hg]; exact (below_size (by repeat (first | (with_reducible first | exact HB.out | apply below_alloc | apply pw_below_drewN | apply below_drew1) | exact HB.out))) : w.heap.size ≤ gb1116)); clear HB; have HB := n0_; have BK1116 := n1_; have GW1116 := n2_; have GE1116 := n3_; clear n0_ n1_ n2_ n3_; clear hb hbox hg; obtain ⟨hcz7_0, hcz7_0_c1, hcz7_0_c2, hcz7_0_c3, hcz7_0_c4, hcz7_0_c5, hcz7_0_c6⟩ := c7_of (a := a0_0) BK1116.out rfl; obtain ⟨hfz7_0, hfz7_0_c1, hfz7_0_c2, hfz7_0_c3, hfz7_0_c4, hfz7_0_c5, hfz7_0_c6⟩ := fz7 BK1116.out) | ((with_reducible refine gate_callee (f := 89) rfl ?_); refine goesL_ (some 6) rfl rfl Try.func89 (by kernel_rfl) rfl #[.agg (sv a0_0)] rfl (by (try simp only [List.map_toArray, List.map_cons, List.map_nil]); first | done | rfl | (simp only [List.length_drop, List.length_take]; rfl)) ?_; (with_reducible refine (scalar_Bytes.calls k a0_0 t1117 _ A3.out).mono ?_); rintro e w8 ⟨v1118, rfl, ho0, hb⟩; refine ⟨_, rfl, ?_⟩; have n0_ := Aside0.mk (Kd.R_lower ho0 (below_size (by repeat (first | (with_reducible first | exact HB.out | apply below_alloc | apply pw_below_drewN | apply below_drew1 | refine below_set ?_ GE1116.out) | exact HB.out)))); have n1_ := Aside0.mk (blk_below (g := gb1116) (o := .cells (sv a0_0) 73 (0, 0)) (by (with_reducible repeat (first | refine blk_drewN ?_ _ | refine blk_drew ?_ | refine blk_alloc ?_ _)); exact BK1116.out) hb); have n2_ := Aside0.mk (below_step (by repeat (first | (with_reducible first | exact HB.out | apply below_alloc | apply pw_below_drewN | apply below_drew1 | refine below_set ?_ GE1116.out) | exact HB.out)) hb); clear BK1116; clear HB; have HO1119 := n0_; have BK1116 := n1_; have HB := n2_; clear n0_ n1_ n2_; (try clear hb); (try clear hb2); (try clear hk); (try clear hi); (try clear ho0)) | ((with_reducible refine gate_callee (f := 84) rfl ?_); refine goesL_ (some 8) rfl rfl Try.func84 (by kernel_rfl) rfl #[.slice A1 l1.length c1] rfl (by (try simp only [List.map_toArray, List.map_cons, List.map_nil]); first | done | rfl | (simp only [List.length_drop, List.length_take]; rfl)) ?_; (with_reducible refine (chicoryref06_Bytes.calls k _ _ l1 t1120 _ ?side1 ?side2 A4.out).mono ?_); (case side1 => repeat (first | exact (Kd.C_below HR1.out HB.out) | (with_reducible refine Kd.C_alloc ?_ _) | (with_reducible refine Kd.C_drewN ?_ _) | (with_reducible refine Kd.C_drew ?_))); (case side2 => exact HC1.out); rintro e w9 ⟨v1121, rfl, ho0, hb⟩; refine ⟨_, rfl, ?_⟩; have n0_ := Aside0.mk (Kd.R_elder' (by (with_reducible repeat (first | apply Kd.R_alloc | apply Kd.R_drewN | apply Kd.R_drew)); exact HO1119.out) (Kd.R_base ho0) hb); have n1_ := Aside0.mk (Kd.R_lower (Kd.R_new' ho0 (Kd.R_lt (by (with_reducible repeat (first | apply Kd.R_alloc | apply Kd.R_drewN | apply Kd.R_drew)); exact HO1119.out))) (below_size (by repeat (first | (with_reducible first | exact HB.out | apply below_alloc | apply pw_below_drewN | apply below_drew1 | refine below_set ?_ GE1116.out) | exact HB.out)))); have n2_ := Aside0.mk (blk_below (g := gb1116) (o := .cells (sv a0_0) 73 (0, 0)) (by (with_reducible repeat (first | refine blk_drewN ?_ _ | refine blk_drew ?_ | refine blk_alloc ?_ _)); exact BK1116.out) hb); have n3_ := Aside0.mk (below_step (by repeat (first | (with_reducible first | exact HB.out | apply below_alloc | apply pw_below_drewN | apply below_drew1 | refine below_set ?_ GE1116.out) | exact HB.out)) hb); clear HO1119; clear BK1116; clear HB; have HO1119 := n0_; have HO1122 := n1_; have BK1116 := n2_; have HB := n3_; clear n0_ n1_ n2_ n3_; (try clear hb); (try clear hb2); (try clear hk); (try clear hi); (try clear ho0); obtain ⟨Ao10, co10, eo10⟩ := Kd.R_slice HO1119.out; subst eo10; obtain ⟨Ao11, co11, eo11⟩ := Kd.R_slice HO1122.out; subst eo11) | ((with_reducible refine gate_callee (f := 60) rfl ?_); refine goesL_ (some 9) rfl rfl Try.func60 (by kernel_rfl) rfl #[.slice Ao10 t1117.length co10, .slice Ao11 t1120.length co11] rfl (by (try simp only [List.map_toArray, List.map_cons, List.map_nil]); first | done | rfl | (simp only [List.length_drop, List.length_take]; rfl)) ?_; (with_reducible refine (chicorylaw01_Bytes.calls k _ _ t1117 _ _ t1120 t1123 _ ?side1 ?side2 ?side3 ?side4 A5.out).mono ?_); (case side1 => repeat (first | exact (Kd.R_reads' HO1119.out).2.2 | (with_reducible refine Kd.C_alloc ?_ _) | (with_reducible refine Kd.C_drewN ?_ _) | (with_reducible refine Kd.C_drew ?_))); (case side2 => exact (Kd.R_reads' HO1119.out).2.1); (case side3 => repeat (first | exact (Kd.R_reads' HO1122.out).2.2 | (with_reducible refine Kd.C_alloc ?_ _) | (with_reducible refine Kd.C_drewN ?_ _) | (with_reducible refine Kd.C_drew ?_))); (case side4 => exact (Kd.R_reads' HO1122.out).2.1); rintro e w' ⟨rfl, ⟨nd, rfl⟩⟩; refine ⟨_, rfl, ?_⟩))
  go_ret
  exact ⟨by first | rfl | (simp [errW_none, errW_some] <;> rfl) | (simp [*, errW_none, errW_some] <;> rfl), by repeat (first | (with_reducible first | exact HB.out | apply below_alloc | apply pw_below_drewN | apply below_drew1 | refine below_set ?_ GE1116.out) | exact HB.out)⟩
def scalar_Add.f (k : Nat) (a0_0 : List Int) (a1_0 : List Int) : Option (List Int) := (scalar_Scalar_nat.f a0_0).bind fun t1127 => ((scalar_Scalar_nat.f a1_0).bind fun t1130 => ((number_Add.f k t1127 t1130).bind fun t1133 => ((scalar_reduce.f k t1133).bind fun t1136 => (some t1136))))
theorem scalar_Add.mono : ∀ a0 a1 k, LeO (scalar_Add.f k a0 a1) (scalar_Add.f (k + 1) a0 a1) := by
  intro a0 a1 k
  unfold scalar_Add.f
  repeat' first
      | (with_reducible exact number_Add.mono _ _ _)
      | (with_reducible exact scalar_reduce.mono _ _)
      | (with_reducible exact LeO.refl _)
      | (with_reducible exact LeO.none _)
      | (with_reducible refine LeO.ite ?_ ?_)
      | (with_reducible refine LeO.bind ?_ (fun _ => ?_))
      | exact number_Add.mono _ _ _
      | exact scalar_reduce.mono _ _
      | exact LeO.none _
      | refine LeO.ite ?_ ?_
      | refine LeO.bind ?_ (fun _ => ?_)
set_option maxHeartbeats 8000000 in
set_option maxRecDepth 100000 in
theorem scalar_Add.calls (k : Nat) (a0_0 : List Int) (a1_0 : List Int) (r : List Int) (w : World) (h : scalar_Add.f k a0_0 a1_0 = some r) :
    Calls Try.prog 64 #[.agg (sv a0_0), .agg (sv a1_0)] w fun e w' => e = .returned (.agg (sv r)) ∧ Below w.heap.size w w' := by
  have hu73 := Try.underlying73
  have HB := Aside0.mk (Below.refl w.heap.size w)
  have H : ((scalar_Scalar_nat.f a0_0).bind fun t1127 => ((scalar_Scalar_nat.f a1_0).bind fun t1130 => ((number_Add.f k t1127 t1130).bind fun t1133 => ((scalar_reduce.f k t1133).bind fun t1136 => (some t1136))))) = some r := h
  clear h
  replace H := Option.bind_eq_some_iff.mp H
  obtain ⟨t1127, A30, H⟩ := H
  replace H : ((scalar_Scalar_nat.f a1_0).bind fun t1130 => ((number_Add.f k t1127 t1130).bind fun t1133 => ((scalar_reduce.f k t1133).bind fun t1136 => (some t1136)))) = some r := H
  have A3 := Aside0.mk A30
  clear A30
  replace H := Option.bind_eq_some_iff.mp H
  obtain ⟨t1130, A40, H⟩ := H
  replace H : ((number_Add.f k t1127 t1130).bind fun t1133 => ((scalar_reduce.f k t1133).bind fun t1136 => (some t1136))) = some r := H
  have A4 := Aside0.mk A40
  clear A40
  replace H := Option.bind_eq_some_iff.mp H
  obtain ⟨t1133, A50, H⟩ := H
  replace H : ((scalar_reduce.f k t1133).bind fun t1136 => (some t1136)) = some r := H
  have A5 := Aside0.mk A50
  clear A50
  replace H := Option.bind_eq_some_iff.mp H
  obtain ⟨t1136, A60, H⟩ := H
  replace H : (some t1136) = some r := H
  have A6 := Aside0.mk A60
  clear A60
  obtain rfl := Option.some.inj H
  go_enter Try.func64, Try.ntmps64
  try go_wp2_with (first | ((with_reducible refine gate_dst (N := 2) rfl ?_); refine box_event ?hg (N := 2) ?hd (cs := (sv a0_0)) (t := 73) ?hr ?_; (case hd => rfl); (case hg => rfl); (case hr => first | (go_simp; done) | (go_simp; rfl)); intro gb1124 hg w7 hbox hb; have n0_ := Aside0.mk (below_step (by repeat (first | (with_reducible first | exact HB.out | apply below_alloc | apply pw_below_drewN | apply below_drew1) | exact HB.out)) hb); have n1_ := Aside0.mk (hbox); have n2_ := Aside0.mk ((by rw [hg]; exact (below_size (by repeat (first | (with_reducible first | exact HB.out | apply below_alloc | apply pw_below_drewN | apply below_drew1) | exact HB.out))) : w.heap.size ≤ gb1124)); have n3_ := Aside0.mk ((by rw [hg]; exact (below_size (by repeat (first | (with_reducible first | exact HB.out | apply below_alloc | apply pw_below_drewN | apply below_drew1) | exact HB.out))) : w.heap.size ≤ gb1124)); clear HB; have HB := n0_; have BK1124 := n1_; have GW1124 := n2_; have GE1124 := n3_; clear n0_ n1_ n2_ n3_; clear hb hbox hg) | ((with_reducible refine gate_dst (N := 3) rfl ?_); refine box_event ?hg (N := 3) ?hd (cs := (sv a1_0)) (t := 73) ?hr ?_; (case hd => rfl); (case hg => rfl); (case hr => first | (go_simp; done) | (go_simp; rfl)); intro gb1125 hg w8 hbox hb; have n0_ := Aside0.mk (blk_below (g := gb1124) (o := .cells (sv a0_0) 73 (0, 0)) (by (with_reducible repeat (first | refine blk_drewN ?_ _ | refine blk_drew ?_ | refine blk_alloc ?_ _)); exact BK1124.out) hb); have n1_ := Aside0.mk (below_step (by repeat (first | (with_reducible first | exact HB.out | apply below_alloc | apply pw_below_drewN | apply below_drew1 | refine below_set ?_ GE1124.out) | exact HB.out)) hb); have n2_ := Aside0.mk (hbox); have n3_ := Aside0.mk ((by rw [hg]; exact (below_size (by repeat (first | (with_reducible first | exact HB.out | apply below_alloc | apply pw_below_drewN | apply below_drew1 | refine below_set ?_ GE1124.out) | exact HB.out))) : w.heap.size ≤ gb1125)); have n4_ := Aside0.mk ((by rw [hg]; exact (below_size (by repeat (first | (with_reducible first | exact HB.out | apply below_alloc | apply pw_below_drewN | apply below_drew1 | refine below_set ?_ GE1124.out) | exact HB.out))) : w.heap.size ≤ gb1125)); have n5_ := Aside0.mk ((by rw [hg]; exact Nat.ne_of_lt (blk_lt (g := gb1124) (o := .cells (sv a0_0) 73 (0, 0)) (by (with_reducible repeat (first | refine blk_drewN ?_ _ | refine blk_drew ?_ | refine blk_alloc ?_ _)); exact BK1124.out)) : gb1124 ≠ gb1125)); have n6_ := Aside0.mk ((by rw [hg]; exact Nat.ne_of_gt (blk_lt (g := gb1124) (o := .cells (sv a0_0) 73 (0, 0)) (by (with_reducible repeat (first | refine blk_drewN ?_ _ | refine blk_drew ?_ | refine blk_alloc ?_ _)); exact BK1124.out)) : gb1125 ≠ gb1124)); clear BK1124; clear HB; have BK1124 := n0_; have HB := n1_; have BK1125 := n2_; have GW1125 := n3_; have GE1125 := n4_; have NB1124_1125 := n5_; have NB1125_1124 := n6_; clear n0_ n1_ n2_ n3_ n4_ n5_ n6_; clear hb hbox hg) | ((with_reducible refine gate_dst (N := 4) rfl ?_); refine box_event ?hg (N := 4) ?hd (cs := zv) (t := 73) ?hr ?_; (case hd => rfl); (case hg => rfl); (case hr => first | (go_simp; done) | (go_simp; rfl)); intro gb1126 hg w9 hbox hb; have n0_ := Aside0.mk (blk_below (g := gb1124) (o := .cells (sv a0_0) 73 (0, 0)) (by (with_reducible repeat (first | refine blk_drewN ?_ _ | refine blk_drew ?_ | refine blk_alloc ?_ _)); exact BK1124.out) hb); have n1_ := Aside0.mk (blk_below (g := gb1125) (o := .cells (sv a1_0) 73 (0, 0)) (by (with_reducible repeat (first | refine blk_drewN ?_ _ | refine blk_drew ?_ | refine blk_alloc ?_ _)); exact BK1125.out) hb); have n2_ := Aside0.mk (below_step (by repeat (first | (with_reducible first | exact HB.out | apply below_alloc | apply pw_below_drewN | apply below_drew1 | refine below_set ?_ GE1124.out | refine below_set ?_ GE1125.out) | exact HB.out)) hb); have n3_ := Aside0.mk (hbox); have n4_ := Aside0.mk ((by rw [hg]; exact (below_size (by repeat (first | (with_reducible first | exact HB.out | apply below_alloc | apply pw_below_drewN | apply below_drew1 | refine below_set ?_ GE1124.out | refine below_set ?_ GE1125.out) | exact HB.out))) : w.heap.size ≤ gb1126)); have n5_ := Aside0.mk ((by rw [hg]; exact (below_size (by repeat (first | (with_reducible first | exact HB.out | apply below_alloc | apply pw_below_drewN | apply below_drew1 | refine below_set ?_ GE1124.out | refine below_set ?_ GE1125.out) | exact HB.out))) : w.heap.size ≤ gb1126)); have n6_ := Aside0.mk ((by rw [hg]; exact Nat.ne_of_lt (blk_lt (g := gb1124) (o := .cells (sv a0_0) 73 (0, 0)) (by (with_reducible repeat (first | refine blk_drewN ?_ _ | refine blk_drew ?_ | refine blk_alloc ?_ _)); exact BK1124.out)) : gb1124 ≠ gb1126)); have n7_ := Aside0.mk ((by rw [hg]; exact Nat.ne_of_gt (blk_lt (g := gb1124) (o := .cells (sv a0_0) 73 (0, 0)) (by (with_reducible repeat (first | refine blk_drewN ?_ _ | refine blk_drew ?_ | refine blk_alloc ?_ _)); exact BK1124.out)) : gb1126 ≠ gb1124)); have n8_ := Aside0.mk ((by rw [hg]; exact Nat.ne_of_lt (blk_lt (g := gb1125) (o := .cells (sv a1_0) 73 (0, 0)) (by (with_reducible repeat (first | refine blk_drewN ?_ _ | refine blk_drew ?_ | refine blk_alloc ?_ _)); exact BK1125.out)) : gb1125 ≠ gb1126)); have n9_ := Aside0.mk ((by rw [hg]; exact Nat.ne_of_gt (blk_lt (g := gb1125) (o := .cells (sv a1_0) 73 (0, 0)) (by (with_reducible repeat (first | refine blk_drewN ?_ _ | refine blk_drew ?_ | refine blk_alloc ?_ _)); exact BK1125.out)) : gb1126 ≠ gb1125)); clear BK1124; clear BK1125; clear HB; have BK1124 := n0_; have BK1125 := n1_; have HB := n2_; have BK1126 := n3_; have GW1126 := n4_; have GE1126 := n5_; have NB1124_1126 := n6_; have NB1126_1124 := n7_; have NB1125_1126 := n8_; have NB1126_1125 := n9_; clear n0_ n1_ n2_ n3_ n4_ n5_ n6_ n7_ n8_ n9_; clear hb hbox hg))
  have n0_ := Aside0.mk (blk_drew BK1124.out)
  have n1_ := Aside0.mk (blk_drew BK1125.out)
  have n2_ := Aside0.mk (blk_drew BK1126.out)
  have n3_ := Aside0.mk (below_drew1 HB.out)
  clear BK1124
  clear BK1125
  clear BK1126
  clear HB
  have BK1124 := n0_
  have BK1125 := n1_
  have BK1126 := n2_
  have HB := n3_
  clear n0_ n1_ n2_ n3_
  refine start_ (n := 7) (S := fun w' => c7 w' gb1124 a0_0 ∧ c7 w' gb1125 a1_0) (ds := []) #[false, false, false, false, false, false, false] (by kernel_rfl) rfl rfl ⟨c7_of BK1124.out rfl, c7_of BK1125.out rfl⟩ (fun hHeld => ?_)
  generalize w9.drew = w10 at BK1124 BK1125 BK1126 HB hHeld ⊢
  refine take_ (i := 0) (N := some 5) (v := ?_) (a' := ?_) #[true, false, false, false, false, false, false] rfl rfl (by kernel_rfl) (fun _ _ _ h => h) (Or.inl ⟨by rfl, ?_⟩) hHeld ?_ ?_
  rotate_left
  · rintro w' ⟨⟨s0, s0_c1, s0_c2, s0_c3, s0_c4, s0_c5, s0_c6⟩, ⟨s1, s1_c1, s1_c2, s1_c3, s1_c4, s1_c5, s1_c6⟩⟩
    go_simp
    with_reducible rfl
  rotate_left
  · simp only [Act.put, List.setIfInBounds_toArray, List.set_cons_zero, List.set_cons_succ, i64_w, i32_w]
    rfl
  refine take_ (i := 2) (N := some 7) (v := ?_) (a' := ?_) #[true, false, true, false, false, false, false] rfl rfl (by kernel_rfl) (fun _ _ _ h => h) (Or.inl ⟨by rfl, ?_⟩) hHeld ?_ ?_
  rotate_left
  · rintro w' ⟨⟨s0, s0_c1, s0_c2, s0_c3, s0_c4, s0_c5, s0_c6⟩, ⟨s1, s1_c1, s1_c2, s1_c3, s1_c4, s1_c5, s1_c6⟩⟩
    go_simp
    with_reducible rfl
  rotate_left
  · simp only [Act.put, List.setIfInBounds_toArray, List.set_cons_zero, List.set_cons_succ, i64_w, i32_w]
    rfl
  refine one_ (i := 1) (N := some 6) #[true, true, true, false, false, false, false] rfl rfl (by kernel_rfl) (by decide) (fun K hK => ?_)
  refine goes_ Try.func107 (by kernel_rfl) rfl #[.agg (sv a0_0)] (by rfl) rfl rfl (by (try simp only [List.map_toArray, List.map_cons, List.map_nil]); first | done | rfl | (simp only [List.length_drop, List.length_take]; rfl)) ?_
  with_reducible refine (scalar_Scalar_nat.calls a0_0 t1127 _ A3.out).mono ?_
  rintro e w11 ⟨v1128, rfl, ho0, hb⟩
  refine ⟨_, rfl, ?_⟩
  have n0_ := Aside0.mk (Kd.R_lower ho0 (below_size (by repeat (first | (with_reducible first | exact HB.out | apply below_alloc | apply pw_below_drewN | apply below_drew1 | refine below_set ?_ GE1124.out | refine below_set ?_ GE1125.out | refine below_set ?_ GE1126.out) | exact HB.out))))
  have n1_ := Aside0.mk (blk_below (g := gb1124) (o := .cells (sv a0_0) 73 (0, 0)) (by (with_reducible repeat (first | refine blk_drewN ?_ _ | refine blk_drew ?_ | refine blk_alloc ?_ _)); exact BK1124.out) hb)
  have n2_ := Aside0.mk (blk_below (g := gb1125) (o := .cells (sv a1_0) 73 (0, 0)) (by (with_reducible repeat (first | refine blk_drewN ?_ _ | refine blk_drew ?_ | refine blk_alloc ?_ _)); exact BK1125.out) hb)
  have n3_ := Aside0.mk (blk_below (g := gb1126) (o := .cells zv 73 (0, 0)) (by (with_reducible repeat (first | refine blk_drewN ?_ _ | refine blk_drew ?_ | refine blk_alloc ?_ _)); exact BK1126.out) hb)
  have n4_ := Aside0.mk (below_step (by repeat (first | (with_reducible first | exact HB.out | apply below_alloc | apply pw_below_drewN | apply below_drew1 | refine below_set ?_ GE1124.out | refine below_set ?_ GE1125.out | refine below_set ?_ GE1126.out) | exact HB.out)) hb)
  clear BK1124
  clear BK1125
  clear BK1126
  clear HB
  have HO1129 := n0_
  have BK1124 := n1_
  have BK1125 := n2_
  have BK1126 := n3_
  have HB := n4_
  clear n0_ n1_ n2_ n3_ n4_
  (try clear hb)
  (try clear hb2)
  (try clear hk)
  (try clear hi)
  (try clear ho0)
  refine hK.out _ _ ⟨c7_of BK1124.out rfl, c7_of BK1125.out rfl⟩ (fun hHeld => ?_)
  clear hK K
  refine norm_ (a' := ?_) ?_ ?_
  rotate_left
  · show Act.put _ (some 6) _ = _
    simp only [Act.put, List.setIfInBounds_toArray, List.set_cons_zero, List.set_cons_succ, i64_w, i32_w]
    rfl
  refine one_ (i := 3) (N := some 8) #[true, true, true, true, false, false, false] rfl rfl (by kernel_rfl) (by decide) (fun K hK => ?_)
  refine goes_ Try.func107 (by kernel_rfl) rfl #[.agg (sv a1_0)] (by rfl) rfl rfl (by (try simp only [List.map_toArray, List.map_cons, List.map_nil]); first | done | rfl | (simp only [List.length_drop, List.length_take]; rfl)) ?_
  with_reducible refine (scalar_Scalar_nat.calls a1_0 t1130 _ A4.out).mono ?_
  rintro e w12 ⟨v1131, rfl, ho0, hb⟩
  refine ⟨_, rfl, ?_⟩
  have n0_ := Aside0.mk (Kd.R_elder' (by (with_reducible repeat (first | apply Kd.R_alloc | apply Kd.R_drewN | apply Kd.R_drew)); exact HO1129.out) (Kd.R_base ho0) hb)
  have n1_ := Aside0.mk (Kd.R_lower (Kd.R_new' ho0 (Kd.R_lt (by (with_reducible repeat (first | apply Kd.R_alloc | apply Kd.R_drewN | apply Kd.R_drew)); exact HO1129.out))) (below_size (by repeat (first | (with_reducible first | exact HB.out | apply below_alloc | apply pw_below_drewN | apply below_drew1 | refine below_set ?_ GE1124.out | refine below_set ?_ GE1125.out | refine below_set ?_ GE1126.out) | exact HB.out))))
  have n2_ := Aside0.mk (blk_below (g := gb1124) (o := .cells (sv a0_0) 73 (0, 0)) (by (with_reducible repeat (first | refine blk_drewN ?_ _ | refine blk_drew ?_ | refine blk_alloc ?_ _)); exact BK1124.out) hb)
  have n3_ := Aside0.mk (blk_below (g := gb1125) (o := .cells (sv a1_0) 73 (0, 0)) (by (with_reducible repeat (first | refine blk_drewN ?_ _ | refine blk_drew ?_ | refine blk_alloc ?_ _)); exact BK1125.out) hb)
  have n4_ := Aside0.mk (blk_below (g := gb1126) (o := .cells zv 73 (0, 0)) (by (with_reducible repeat (first | refine blk_drewN ?_ _ | refine blk_drew ?_ | refine blk_alloc ?_ _)); exact BK1126.out) hb)
  have n5_ := Aside0.mk (below_step (by repeat (first | (with_reducible first | exact HB.out | apply below_alloc | apply pw_below_drewN | apply below_drew1 | refine below_set ?_ GE1124.out | refine below_set ?_ GE1125.out | refine below_set ?_ GE1126.out) | exact HB.out)) hb)
  clear HO1129
  clear BK1124
  clear BK1125
  clear BK1126
  clear HB
  have HO1129 := n0_
  have HO1132 := n1_
  have BK1124 := n2_
  have BK1125 := n3_
  have BK1126 := n4_
  have HB := n5_
  clear n0_ n1_ n2_ n3_ n4_ n5_
  (try clear hb)
  (try clear hb2)
  (try clear hk)
  (try clear hi)
  (try clear ho0)
  obtain ⟨Ao13, co13, eo13⟩ := Kd.R_slice HO1129.out
  (first | subst eo13 | (injection eo13 with f1_ f2_ f3_; have f4_ := f1_.symm; have f5_ := f3_.symm; clear f1_ f2_ f3_; subst f4_; subst f5_))
  obtain ⟨Ao14, co14, eo14⟩ := Kd.R_slice HO1132.out
  (first | subst eo14 | (injection eo14 with f1_ f2_ f3_; have f4_ := f1_.symm; have f5_ := f3_.symm; clear f1_ f2_ f3_; subst f4_; subst f5_))
  refine hK.out _ _ ⟨c7_of BK1124.out rfl, c7_of BK1125.out rfl⟩ (fun hHeld => ?_)
  clear hK K
  refine norm_ (a' := ?_) ?_ ?_
  rotate_left
  · show Act.put _ (some 8) _ = _
    simp only [Act.put, List.setIfInBounds_toArray, List.set_cons_zero, List.set_cons_succ, i64_w, i32_w]
    rfl
  refine one_ (i := 4) (N := some 9) #[true, true, true, true, true, false, false] rfl rfl (by kernel_rfl) (by decide) (fun K hK => ?_)
  refine goes_ Try.func48 (by kernel_rfl) rfl #[.slice Ao13 t1127.length co13, .slice Ao14 t1130.length co14] (by rfl) rfl rfl (by (try simp only [List.map_toArray, List.map_cons, List.map_nil]); first | done | rfl | (simp only [List.length_drop, List.length_take]; rfl)) ?_
  with_reducible refine (number_Add.calls k _ _ t1127 _ _ t1130 t1133 _ ?side1 ?side2 ?side3 ?side4 A5.out).mono ?_
  (case side1 => repeat (first | exact (Kd.R_reads' HO1129.out).2.2 | (with_reducible refine Kd.C_alloc ?_ _) | (with_reducible refine Kd.C_drewN ?_ _) | (with_reducible refine Kd.C_drew ?_)))
  (case side2 => exact (Kd.R_reads' HO1129.out).2.1)
  (case side3 => repeat (first | exact (Kd.R_reads' HO1132.out).2.2 | (with_reducible refine Kd.C_alloc ?_ _) | (with_reducible refine Kd.C_drewN ?_ _) | (with_reducible refine Kd.C_drew ?_)))
  (case side4 => exact (Kd.R_reads' HO1132.out).2.1)
  rintro e w15 ⟨v1134, rfl, ho0, hb⟩
  refine ⟨_, rfl, ?_⟩
  have n0_ := Aside0.mk (Kd.R_below (by (with_reducible repeat (first | apply Kd.R_alloc | apply Kd.R_drewN | apply Kd.R_drew)); exact HO1129.out) hb)
  have n1_ := Aside0.mk (Kd.R_below (by (with_reducible repeat (first | apply Kd.R_alloc | apply Kd.R_drewN | apply Kd.R_drew)); exact HO1132.out) hb)
  have n2_ := Aside0.mk (Kd.V_lower (Kd.V_mono (ok' := fun k_ => some k_ ≠ (.slice Ao13 t1127.length co13 : Value).ownBlock ∧ some k_ ≠ (.slice Ao14 t1130.length co14 : Value).ownBlock ∧ k_ ≠ gb1124 ∧ k_ ≠ gb1125 ∧ k_ ≠ gb1126) ho0 (fun k_ hk_ => ⟨(Kd.fresh' (Kd.R_lt (by (with_reducible repeat (first | apply Kd.R_alloc | apply Kd.R_drewN | apply Kd.R_drew)); exact HO1129.out)) k_ hk_), (Kd.fresh' (Kd.R_lt (by (with_reducible repeat (first | apply Kd.R_alloc | apply Kd.R_drewN | apply Kd.R_drew)); exact HO1132.out)) k_ hk_), (Kd.freshB (g := gb1124) (o := .cells (sv a0_0) 73 (0, 0)) (by (with_reducible repeat (first | refine blk_drewN ?_ _ | refine blk_drew ?_ | refine blk_alloc ?_ _)); exact BK1124.out) k_ hk_), (Kd.freshB (g := gb1125) (o := .cells (sv a1_0) 73 (0, 0)) (by (with_reducible repeat (first | refine blk_drewN ?_ _ | refine blk_drew ?_ | refine blk_alloc ?_ _)); exact BK1125.out) k_ hk_), (Kd.freshB (g := gb1126) (o := .cells zv 73 (0, 0)) (by (with_reducible repeat (first | refine blk_drewN ?_ _ | refine blk_drew ?_ | refine blk_alloc ?_ _)); exact BK1126.out) k_ hk_)⟩)) (below_size (by repeat (first | (with_reducible first | exact HB.out | apply below_alloc | apply pw_below_drewN | apply below_drew1 | refine below_set ?_ GE1124.out | refine below_set ?_ GE1125.out | refine below_set ?_ GE1126.out) | exact HB.out))))
  have n3_ := Aside0.mk (blk_below (g := gb1124) (o := .cells (sv a0_0) 73 (0, 0)) (by (with_reducible repeat (first | refine blk_drewN ?_ _ | refine blk_drew ?_ | refine blk_alloc ?_ _)); exact BK1124.out) hb)
  have n4_ := Aside0.mk (blk_below (g := gb1125) (o := .cells (sv a1_0) 73 (0, 0)) (by (with_reducible repeat (first | refine blk_drewN ?_ _ | refine blk_drew ?_ | refine blk_alloc ?_ _)); exact BK1125.out) hb)
  have n5_ := Aside0.mk (blk_below (g := gb1126) (o := .cells zv 73 (0, 0)) (by (with_reducible repeat (first | refine blk_drewN ?_ _ | refine blk_drew ?_ | refine blk_alloc ?_ _)); exact BK1126.out) hb)
  have n6_ := Aside0.mk (below_step (by repeat (first | (with_reducible first | exact HB.out | apply below_alloc | apply pw_below_drewN | apply below_drew1 | refine below_set ?_ GE1124.out | refine below_set ?_ GE1125.out | refine below_set ?_ GE1126.out) | exact HB.out)) hb)
  clear HO1129
  clear HO1132
  clear BK1124
  clear BK1125
  clear BK1126
  clear HB
  have HO1129 := n0_
  have HO1132 := n1_
  have HO1135 := n2_
  have BK1124 := n3_
  have BK1125 := n4_
  have BK1126 := n5_
  have HB := n6_
  clear n0_ n1_ n2_ n3_ n4_ n5_ n6_
  (try clear hb)
  (try clear hb2)
  (try clear hk)
  (try clear hi)
  (try clear ho0)
  obtain ⟨Ao16, co16, eo16⟩ := Kd.V_slice HO1135.out
  (first | subst eo16 | (injection eo16 with f1_ f2_ f3_; have f4_ := f1_.symm; have f5_ := f3_.symm; clear f1_ f2_ f3_; subst f4_; subst f5_))
  refine hK.out _ _ ⟨c7_of BK1124.out rfl, c7_of BK1125.out rfl⟩ (fun hHeld => ?_)
  clear hK K
  refine norm_ (a' := ?_) ?_ ?_
  rotate_left
  · show Act.put _ (some 9) _ = _
    simp only [Act.put, List.setIfInBounds_toArray, List.set_cons_zero, List.set_cons_succ, i64_w, i32_w]
    rfl
  refine one_ (i := 5) (N := some 10) #[true, true, true, true, true, true, false] rfl rfl (by kernel_rfl) (by decide) (fun K hK => ?_)
  refine goes_ Try.func106 (by kernel_rfl) rfl #[.slice Ao16 t1133.length co16] (by rfl) rfl rfl (by (try simp only [List.map_toArray, List.map_cons, List.map_nil]); first | done | rfl | (simp only [List.length_drop, List.length_take]; rfl)) ?_
  with_reducible refine (scalar_reduce.calls k (fun k_ => (some k_ ≠ (.slice Ao13 t1127.length co13 : Value).ownBlock ∧ (some k_ ≠ (.slice Ao14 t1130.length co14 : Value).ownBlock ∧ (k_ ≠ gb1124 ∧ (k_ ≠ gb1125 ∧ k_ ≠ gb1126))))) _ _ t1133 t1136 _ ?side1 A6.out).mono ?_
  (case side1 => exact HO1135.out)
  rintro e w17 ⟨rfl, hb⟩
  refine ⟨_, rfl, ?_⟩
  have n0_ := Aside0.mk (Kd.R_below (by (with_reducible repeat (first | apply Kd.R_alloc | apply Kd.R_drewN | apply Kd.R_drew)); exact HO1129.out) hb)
  have n1_ := Aside0.mk (Kd.R_below (by (with_reducible repeat (first | apply Kd.R_alloc | apply Kd.R_drewN | apply Kd.R_drew)); exact HO1132.out) hb)
  have n2_ := Aside0.mk (Kd.V_below (by (with_reducible repeat (first | apply Kd.V_alloc | apply Kd.V_drewN | apply Kd.V_drew)); exact HO1135.out) hb)
  have n3_ := Aside0.mk (blk_below (g := gb1124) (o := .cells (sv a0_0) 73 (0, 0)) (by (with_reducible repeat (first | refine blk_drewN ?_ _ | refine blk_drew ?_ | refine blk_alloc ?_ _)); exact BK1124.out) hb)
  have n4_ := Aside0.mk (blk_below (g := gb1125) (o := .cells (sv a1_0) 73 (0, 0)) (by (with_reducible repeat (first | refine blk_drewN ?_ _ | refine blk_drew ?_ | refine blk_alloc ?_ _)); exact BK1125.out) hb)
  have n5_ := Aside0.mk (blk_below (g := gb1126) (o := .cells zv 73 (0, 0)) (by (with_reducible repeat (first | refine blk_drewN ?_ _ | refine blk_drew ?_ | refine blk_alloc ?_ _)); exact BK1126.out) hb)
  have n6_ := Aside0.mk (below_step (by repeat (first | (with_reducible first | exact HB.out | apply below_alloc | apply pw_below_drewN | apply below_drew1 | refine below_set ?_ GE1124.out | refine below_set ?_ GE1125.out | refine below_set ?_ GE1126.out) | exact HB.out)) hb)
  clear HO1129
  clear HO1132
  clear HO1135
  clear BK1124
  clear BK1125
  clear BK1126
  clear HB
  have HO1129 := n0_
  have HO1132 := n1_
  have HO1135 := n2_
  have BK1124 := n3_
  have BK1125 := n4_
  have BK1126 := n5_
  have HB := n6_
  clear n0_ n1_ n2_ n3_ n4_ n5_ n6_
  (try clear hb)
  (try clear hb2)
  (try clear hk)
  (try clear hi)
  refine hK.out _ _ ⟨c7_of BK1124.out rfl, c7_of BK1125.out rfl⟩ (fun hHeld => ?_)
  clear hK K
  refine norm_ (a' := ?_) ?_ ?_
  rotate_left
  · show Act.put _ (some 10) _ = _
    simp only [Act.put, List.setIfInBounds_toArray, List.set_cons_zero, List.set_cons_succ, i64_w, i32_w]
    rfl
  refine one_ (i := 6) (N := none) #[true, true, true, true, true, true, true] rfl rfl (by kernel_rfl) (by decide) (fun K hK => ?_)
  obtain ⟨hs18, hs18_c1, hs18_c2, hs18_c3, hs18_c4, hs18_c5, hs18_c6⟩ := c7_of (a := z7) BK1126.out rfl
  obtain ⟨hfs18, hfs18_c1, hfs18_c2, hfs18_c3, hfs18_c4, hfs18_c5, hfs18_c6⟩ := fz7 BK1126.out
  have hns18_0 := NB1124_1126.out
  have hns18_1 := NB1125_1126.out
  have hms18_0 := NB1126_1124.out
  have hms18_1 := NB1126_1125.out
  refine skip_ (w1 := ?_) (by rfl) rfl ?_ ?_
  rotate_left
  · go_simp
    rfl
  refine hK.out _ _ ⟨(c7_far7 (p := gb1126) NB1124_1126.out hHeld.1), (c7_far7 (p := gb1126) NB1125_1126.out hHeld.2)⟩ (fun hHeld => ?_)
  clear hK K
  refine done_ (by kernel_rfl) ?_
  try go_wp2
  refine bodyPost_ret (results_cell_row rfl _ _ gb1126 73 (sv t1136) (0, 0) _ rfl (by (with_reducible repeat (first | refine blk_drewN ?_ _ | refine blk_drew ?_ | refine blk_alloc ?_ _)); refine blk_put7z ?_; (with_reducible repeat (first | refine blk_drewN ?_ _ | refine blk_drew ?_ | refine blk_alloc ?_ _)); exact BK1126.out) Try.underlying73 rfl (by kernel_rfl)) rfl ?_
  exact ⟨by first | rfl | (simp [errW_none, errW_some] <;> rfl) | (simp [*, errW_none, errW_some] <;> rfl), by repeat (first | (with_reducible first | exact HB.out | apply below_alloc | apply pw_below_drewN | apply below_drew1 | refine below_set ?_ GE1124.out | refine below_set ?_ GE1125.out | refine below_set ?_ GE1126.out) | exact HB.out)⟩
end Go.Proofs.Ytdaehflffecllaa.N
namespace Go.Proofs.Ytdaehflffecllaa.N
open Go.RowKit Go.Proofs.YtdaehflffecllaaW.PrintWords Go.Proofs.YtdaehflffecllaaW.PrintLast Go.Proofs.YtdaehflffecllaaW.PrintMore
attribute [local go_sem] max2_int min2_int max_two min_two max_three min_three max_four min_four   -- for this text's walks alone
set_option linter.unusedVariables false
set_option linter.unusedSimpArgs false
def scalar_Neg.f (k : Nat) (a0_0 : List Int) : Option (List Int) := (scalar_order.f k).bind fun t1145 => ((scalar_Scalar_nat.f a0_0).bind fun t1148 => ((number_Sub.f k t1145 t1148).bind fun bt1151 => ((scalar_reduce.f k bt1151.1).bind fun t1155 => (some t1155))))
theorem scalar_Neg.mono : ∀ a0 k, LeO (scalar_Neg.f k a0) (scalar_Neg.f (k + 1) a0) := by
  intro a0 k
  unfold scalar_Neg.f
  repeat' first
      | (with_reducible exact number_Sub.mono _ _ _)
      | (with_reducible exact scalar_order.mono _)
      | (with_reducible exact scalar_reduce.mono _ _)
      | (with_reducible exact LeO.refl _)
      | (with_reducible exact LeO.none _)
      | (with_reducible refine LeO.ite ?_ ?_)
      | (with_reducible refine LeO.bind ?_ (fun _ => ?_))
      | exact number_Sub.mono _ _ _
      | exact scalar_order.mono _
      | exact scalar_reduce.mono _ _
      | exact LeO.none _
      | refine LeO.ite ?_ ?_
      | refine LeO.bind ?_ (fun _ => ?_)
def scalar_Neg.T1 : Bool × List (List Nat × List Nat) := (true, [([], []), ([], []), ([1, 0], [1]), ([0, 2, 2], [0, 2]), ([3], [3]), ([4], [4]), ([4], [4]), ([5, 3, 0, 1, 2, 3, 4, 5], [5]), ([6, 7, 0, 1, 2, 3, 4, 5, 6, 7], [6])])
def scalar_Neg.B1 : List Nat := [0, 0, 3, 7, 15, 31, 31, 63, 255]
theorem scalar_Neg.tab1 : rtab .any (opsOf Try.f68 1) = scalar_Neg.T1 := by kernel_rfl
theorem scalar_Neg.bits1 : waitsOk scalar_Neg.T1.2 scalar_Neg.B1 = true := by kernel_rfl
set_option maxHeartbeats 8000000 in
set_option maxRecDepth 100000 in
theorem scalar_Neg.calls (k : Nat) (a0_0 : List Int) (r : List Int) (w : World) (h : scalar_Neg.f k a0_0 = some r) :
    Calls Try.prog 68 #[.agg (sv a0_0)] w fun e w' => e = .returned (.agg (sv r)) ∧ Below w.heap.size w w' := by
  have hu73 := Try.underlying73
  have HB := Aside0.mk (Below.refl w.heap.size w)
  have H : ((scalar_order.f k).bind fun t1145 => ((scalar_Scalar_nat.f a0_0).bind fun t1148 => ((number_Sub.f k t1145 t1148).bind fun bt1151 => ((scalar_reduce.f k bt1151.1).bind fun t1155 => (some t1155))))) = some r := h
  clear h
  replace H := Option.bind_eq_some_iff.mp H
  obtain ⟨t1145, A20, H⟩ := H
  replace H : ((scalar_Scalar_nat.f a0_0).bind fun t1148 => ((number_Sub.f k t1145 t1148).bind fun bt1151 => ((scalar_reduce.f k bt1151.1).bind fun t1155 => (some t1155)))) = some r := H
  have A2 := Aside0.mk A20
  clear A20
  replace H := Option.bind_eq_some_iff.mp H
  obtain ⟨t1148, A30, H⟩ := H
  replace H : ((number_Sub.f k t1145 t1148).bind fun bt1151 => ((scalar_reduce.f k bt1151.1).bind fun t1155 => (some t1155))) = some r := H
  have A3 := Aside0.mk A30
  clear A30
  replace H := Option.bind_eq_some_iff.mp H
  obtain ⟨⟨t1151, t1154⟩, A40, H⟩ := H
  replace H : ((scalar_reduce.f k t1151).bind fun t1155 => (some t1155)) = some r := H
  have A4 := Aside0.mk A40
  clear A40
  replace H := Option.bind_eq_some_iff.mp H
  obtain ⟨t1155, A50, H⟩ := H
  replace H : (some t1155) = some r := H
  have A5 := Aside0.mk A50
  clear A50
  obtain rfl := Option.some.inj H
  go_enter Try.func68, Try.ntmps68
  try go_wp2_with (first | ((with_reducible refine gate_dst (N := 1) rfl ?_); refine box_event ?hg (N := 1) ?hd (cs := (sv a0_0)) (t := 73) ?hr ?_; (case hd => rfl); (case hg => rfl); (case hr => first | (go_simp; done) | (go_simp; rfl)); intro gb1143 hg w6 hbox hb; have n0_ := Aside0.mk (below_step (by repeat (first | (with_reducible first | exact HB.out | apply below_alloc | apply pw_below_drewN | apply below_drew1) | exact HB.out)) hb); have n1_ := Aside0.mk (hbox); have n2_ := Aside0.mk ((by rw [hg]; exact (below_size (by repeat (first | (with_reducible first | exact HB.out | apply below_alloc | apply pw_below_drewN | apply below_drew1) | exact HB.out))) : w.heap.size ≤ gb1143)); have n3_ := Aside0.mk ((by rw [hg]; exact (below_size (by repeat (first | (with_reducible first | exact HB.out | apply below_alloc | apply pw_below_drewN | apply below_drew1) | exact HB.out))) : w.heap.size ≤ gb1143)); clear HB; have HB := n0_; have BK1143 := n1_; have GW1143 := n2_; have GE1143 := n3_; clear n0_ n1_ n2_ n3_; clear hb hbox hg) | ((with_reducible refine gate_dst (N := 2) rfl ?_); refine box_event ?hg (N := 2) ?hd (cs := zv) (t := 73) ?hr ?_; (case hd => rfl); (case hg => rfl); (case hr => first | (go_simp; done) | (go_simp; rfl)); intro gb1144 hg w7 hbox hb; have n0_ := Aside0.mk (blk_below (g := gb1143) (o := .cells (sv a0_0) 73 (0, 0)) (by (with_reducible repeat (first | refine blk_drewN ?_ _ | refine blk_drew ?_ | refine blk_alloc ?_ _)); exact BK1143.out) hb); have n1_ := Aside0.mk (below_step (by repeat (first | (with_reducible first | exact HB.out | apply below_alloc | apply pw_below_drewN | apply below_drew1 | refine below_set ?_ GE1143.out) | exact HB.out)) hb); have n2_ := Aside0.mk (hbox); have n3_ := Aside0.mk ((by rw [hg]; exact (below_size (by repeat (first | (with_reducible first | exact HB.out | apply below_alloc | apply pw_below_drewN | apply below_drew1 | refine below_set ?_ GE1143.out) | exact HB.out))) : w.heap.size ≤ gb1144)); have n4_ := Aside0.mk ((by rw [hg]; exact (below_size (by repeat (first | (with_reducible first | exact HB.out | apply below_alloc | apply pw_below_drewN | apply below_drew1 | refine below_set ?_ GE1143.out) | exact HB.out))) : w.heap.size ≤ gb1144)); have n5_ := Aside0.mk ((by rw [hg]; exact Nat.ne_of_lt (blk_lt (g := gb1143) (o := .cells (sv a0_0) 73 (0, 0)) (by (with_reducible repeat (first | refine blk_drewN ?_ _ | refine blk_drew ?_ | refine blk_alloc ?_ _)); exact BK1143.out)) : gb1143 ≠ gb1144)); have n6_ := Aside0.mk ((by rw [hg]; exact Nat.ne_of_gt (blk_lt (g := gb1143) (o := .cells (sv a0_0) 73 (0, 0)) (by (with_reducible repeat (first | refine blk_drewN ?_ _ | refine blk_drew ?_ | refine blk_alloc ?_ _)); exact BK1143.out)) : gb1144 ≠ gb1143)); clear BK1143; clear HB; have BK1143 := n0_; have HB := n1_; have BK1144 := n2_; have GW1144 := n3_; have GE1144 := n4_; have NB1143_1144 := n5_; have NB1144_1143 := n6_; clear n0_ n1_ n2_ n3_ n4_ n5_ n6_; clear hb hbox hg))
  have n0_ := Aside0.mk (blk_drew BK1143.out)
  have n1_ := Aside0.mk (blk_drew BK1144.out)
  have n2_ := Aside0.mk (below_drew1 HB.out)
  clear BK1143
  clear BK1144
  clear HB
  have BK1143 := n0_
  have BK1144 := n1_
  have HB := n2_
  clear n0_ n1_ n2_
  refine start_ (n := 9) (S := fun w' => c7 w' gb1143 a0_0) (ds := []) #[false, false, false, false, false, false, false, false, false] (by kernel_rfl) rfl rfl (c7_of BK1143.out rfl) (fun hHeld => ?_); refine with_tabW scalar_Neg.tab1 scalar_Neg.bits1 (fun HT_ HW_ => ?_)
  generalize w7.drew = w8 at BK1143 BK1144 HB hHeld ⊢
  refine take_ (i := 1) (N := some 7) (v := ?_) (a' := ?_) #[false, true, false, false, false, false, false, false, false] rfl rfl (take_ofW HT_.out HW_.out (by kernel_rfl)) (fun _ _ _ h => h) (Or.inl ⟨by rfl, ?_⟩) hHeld ?_ ?_
  rotate_left
  · rintro w' ⟨s0, s0_c1, s0_c2, s0_c3, s0_c4, s0_c5, s0_c6⟩
    go_simp
    with_reducible rfl
  rotate_left
  · simp only [Act.put, List.setIfInBounds_toArray, List.set_cons_zero, List.set_cons_succ, i64_w, i32_w]
    rfl
  refine one_ (i := 0) (N := some 6) #[true, true, false, false, false, false, false, false, false] rfl rfl (one_of HT_.out (by kernel_rfl)) (by decide) (fun K hK => ?_)
  refine goes_ Try.func108 (by kernel_rfl) rfl #[] (by rfl) rfl rfl (by (try simp only [List.map_toArray, List.map_cons, List.map_nil]); first | done | rfl | (simp only [List.length_drop, List.length_take]; rfl)) ?_
  with_reducible refine (scalar_order.calls k  t1145 _ A2.out).mono ?_
  rintro e w9 ⟨v1146, rfl, ho0, hb⟩
  refine ⟨_, rfl, ?_⟩
  have n0_ := Aside0.mk (Kd.V_lower (Kd.V_mono (ok' := fun k_ => k_ ≠ gb1143 ∧ k_ ≠ gb1144) ho0 (fun k_ hk_ => ⟨(Kd.freshB (g := gb1143) (o := .cells (sv a0_0) 73 (0, 0)) (by (with_reducible repeat (first | refine blk_drewN ?_ _ | refine blk_drew ?_ | refine blk_alloc ?_ _)); exact BK1143.out) k_ hk_), (Kd.freshB (g := gb1144) (o := .cells zv 73 (0, 0)) (by (with_reducible repeat (first | refine blk_drewN ?_ _ | refine blk_drew ?_ | refine blk_alloc ?_ _)); exact BK1144.out) k_ hk_)⟩)) (below_size (by repeat (first | (with_reducible first | exact HB.out | apply below_alloc | apply pw_below_drewN | apply below_drew1 | refine below_set ?_ GE1143.out | refine below_set ?_ GE1144.out) | exact HB.out))))
  have n1_ := Aside0.mk (blk_below (g := gb1143) (o := .cells (sv a0_0) 73 (0, 0)) (by (with_reducible repeat (first | refine blk_drewN ?_ _ | refine blk_drew ?_ | refine blk_alloc ?_ _)); exact BK1143.out) hb)
  have n2_ := Aside0.mk (blk_below (g := gb1144) (o := .cells zv 73 (0, 0)) (by (with_reducible repeat (first | refine blk_drewN ?_ _ | refine blk_drew ?_ | refine blk_alloc ?_ _)); exact BK1144.out) hb)
  have n3_ := Aside0.mk (below_step (by repeat (first | (with_reducible first | exact HB.out | apply below_alloc | apply pw_below_drewN | apply below_drew1 | refine below_set ?_ GE1143.out | refine below_set ?_ GE1144.out) | exact HB.out)) hb)
  clear BK1143
  clear BK1144
  clear HB
  have HO1147 := n0_
  have BK1143 := n1_
  have BK1144 := n2_
  have HB := n3_
  clear n0_ n1_ n2_ n3_
  (try clear hb)
  (try clear hb2)
  (try clear hk)
  (try clear hi)
  (try clear ho0)
  refine hK.out _ _ (c7_of BK1143.out rfl) (fun hHeld => ?_)
  clear hK K
  refine norm_ (a' := ?_) ?_ ?_
  rotate_left
  · show Act.put _ (some 6) _ = _
    simp only [Act.put, List.setIfInBounds_toArray, List.set_cons_zero, List.set_cons_succ, i64_w, i32_w]
    rfl
  refine one_ (i := 2) (N := some 8) #[true, true, true, false, false, false, false, false, false] rfl rfl (one_of HT_.out (by kernel_rfl)) (by decide) (fun K hK => ?_)
  refine goes_ Try.func107 (by kernel_rfl) rfl #[.agg (sv a0_0)] (by rfl) rfl rfl (by (try simp only [List.map_toArray, List.map_cons, List.map_nil]); first | done | rfl | (simp only [List.length_drop, List.length_take]; rfl)) ?_
  with_reducible refine (scalar_Scalar_nat.calls a0_0 t1148 _ A3.out).mono ?_
  rintro e w10 ⟨v1149, rfl, ho0, hb⟩
  refine ⟨_, rfl, ?_⟩
  have n0_ := Aside0.mk (Kd.V_elder' (by (with_reducible repeat (first | apply Kd.V_alloc | apply Kd.V_drewN | apply Kd.V_drew)); exact HO1147.out) (Kd.R_base ho0) hb)
  have n1_ := Aside0.mk (Kd.R_lower ho0 (below_size (by repeat (first | (with_reducible first | exact HB.out | apply below_alloc | apply pw_below_drewN | apply below_drew1 | refine below_set ?_ GE1143.out | refine below_set ?_ GE1144.out) | exact HB.out))))
  have n2_ := Aside0.mk (blk_below (g := gb1143) (o := .cells (sv a0_0) 73 (0, 0)) (by (with_reducible repeat (first | refine blk_drewN ?_ _ | refine blk_drew ?_ | refine blk_alloc ?_ _)); exact BK1143.out) hb)
  have n3_ := Aside0.mk (blk_below (g := gb1144) (o := .cells zv 73 (0, 0)) (by (with_reducible repeat (first | refine blk_drewN ?_ _ | refine blk_drew ?_ | refine blk_alloc ?_ _)); exact BK1144.out) hb)
  have n4_ := Aside0.mk (below_step (by repeat (first | (with_reducible first | exact HB.out | apply below_alloc | apply pw_below_drewN | apply below_drew1 | refine below_set ?_ GE1143.out | refine below_set ?_ GE1144.out) | exact HB.out)) hb)
  clear HO1147
  clear BK1143
  clear BK1144
  clear HB
  have HO1147 := n0_
  have HO1150 := n1_
  have BK1143 := n2_
  have BK1144 := n3_
  have HB := n4_
  clear n0_ n1_ n2_ n3_ n4_
  (try clear hb)
  (try clear hb2)
  (try clear hk)
  (try clear hi)
  (try clear ho0)
  obtain ⟨Ao11, co11, eo11⟩ := Kd.V_slice HO1147.out
  (first | subst eo11 | (injection eo11 with f1_ f2_ f3_; have f4_ := f1_.symm; have f5_ := f3_.symm; clear f1_ f2_ f3_; subst f4_; subst f5_))
  obtain ⟨Ao12, co12, eo12⟩ := Kd.R_slice HO1150.out
  (first | subst eo12 | (injection eo12 with f1_ f2_ f3_; have f4_ := f1_.symm; have f5_ := f3_.symm; clear f1_ f2_ f3_; subst f4_; subst f5_))
  refine hK.out _ _ (c7_of BK1143.out rfl) (fun hHeld => ?_)
  clear hK K
  refine norm_ (a' := ?_) ?_ ?_
  rotate_left
  · show Act.put _ (some 8) _ = _
    simp only [Act.put, List.setIfInBounds_toArray, List.set_cons_zero, List.set_cons_succ, i64_w, i32_w]
    rfl
  refine one_ (i := 3) (N := some 9) #[true, true, true, true, false, false, false, false, false] rfl rfl (one_of HT_.out (by kernel_rfl)) (by decide) (fun K hK => ?_)
  refine goes_ Try.func52 (by kernel_rfl) rfl #[.slice Ao11 t1145.length co11, .slice Ao12 t1148.length co12] (by rfl) rfl rfl (by (try simp only [List.map_toArray, List.map_cons, List.map_nil]); first | done | rfl | (simp only [List.length_drop, List.length_take]; rfl)) ?_
  with_reducible refine (number_Sub.calls k _ _ t1145 _ _ t1148 t1151 t1154 _ ?side1 ?side2 ?side3 ?side4 A4.out).mono ?_
  (case side1 => repeat (first | exact (Kd.V_reads' HO1147.out).2.2 | (with_reducible refine Kd.C_alloc ?_ _) | (with_reducible refine Kd.C_drewN ?_ _) | (with_reducible refine Kd.C_drew ?_)))
  (case side2 => exact (Kd.V_reads' HO1147.out).2.1)
  (case side3 => repeat (first | exact (Kd.R_reads' HO1150.out).2.2 | (with_reducible refine Kd.C_alloc ?_ _) | (with_reducible refine Kd.C_drewN ?_ _) | (with_reducible refine Kd.C_drew ?_)))
  (case side4 => exact (Kd.R_reads' HO1150.out).2.1)
  rintro e w13 ⟨v1152, rfl, ho0, hb⟩
  refine ⟨_, rfl, ?_⟩
  have n0_ := Aside0.mk (Kd.V_below (by (with_reducible repeat (first | apply Kd.V_alloc | apply Kd.V_drewN | apply Kd.V_drew)); exact HO1147.out) hb)
  have n1_ := Aside0.mk (Kd.R_below (by (with_reducible repeat (first | apply Kd.R_alloc | apply Kd.R_drewN | apply Kd.R_drew)); exact HO1150.out) hb)
  have n2_ := Aside0.mk (Kd.V_lower (Kd.V_mono (ok' := fun k_ => some k_ ≠ (.slice Ao12 t1148.length co12 : Value).ownBlock ∧ k_ ≠ gb1143 ∧ k_ ≠ gb1144) ho0 (fun k_ hk_ => ⟨(Kd.fresh' (Kd.R_lt (by (with_reducible repeat (first | apply Kd.R_alloc | apply Kd.R_drewN | apply Kd.R_drew)); exact HO1150.out)) k_ hk_), (Kd.freshB (g := gb1143) (o := .cells (sv a0_0) 73 (0, 0)) (by (with_reducible repeat (first | refine blk_drewN ?_ _ | refine blk_drew ?_ | refine blk_alloc ?_ _)); exact BK1143.out) k_ hk_), (Kd.freshB (g := gb1144) (o := .cells zv 73 (0, 0)) (by (with_reducible repeat (first | refine blk_drewN ?_ _ | refine blk_drew ?_ | refine blk_alloc ?_ _)); exact BK1144.out) k_ hk_)⟩)) (below_size (by repeat (first | (with_reducible first | exact HB.out | apply below_alloc | apply pw_below_drewN | apply below_drew1 | refine below_set ?_ GE1143.out | refine below_set ?_ GE1144.out) | exact HB.out))))
  have n3_ := Aside0.mk (blk_below (g := gb1143) (o := .cells (sv a0_0) 73 (0, 0)) (by (with_reducible repeat (first | refine blk_drewN ?_ _ | refine blk_drew ?_ | refine blk_alloc ?_ _)); exact BK1143.out) hb)
  have n4_ := Aside0.mk (blk_below (g := gb1144) (o := .cells zv 73 (0, 0)) (by (with_reducible repeat (first | refine blk_drewN ?_ _ | refine blk_drew ?_ | refine blk_alloc ?_ _)); exact BK1144.out) hb)
  have n5_ := Aside0.mk (below_step (by repeat (first | (with_reducible first | exact HB.out | apply below_alloc | apply pw_below_drewN | apply below_drew1 | refine below_set ?_ GE1143.out | refine below_set ?_ GE1144.out) | exact HB.out)) hb)
  clear HO1147
  clear HO1150
  clear BK1143
  clear BK1144
  clear HB
  have HO1147 := n0_
  have HO1150 := n1_
  have HO1153 := n2_
  have BK1143 := n3_
  have BK1144 := n4_
  have HB := n5_
  clear n0_ n1_ n2_ n3_ n4_ n5_
  (try clear hb)
  (try clear hb2)
  (try clear hk)
  (try clear hi)
  (try clear ho0)
  refine hK.out _ _ (c7_of BK1143.out rfl) (fun hHeld => ?_)
  clear hK K
  refine norm_ (a' := ?_) ?_ ?_
  rotate_left
  · show Act.put _ (some 9) _ = _
    simp only [Act.put, List.setIfInBounds_toArray, List.set_cons_zero, List.set_cons_succ, i64_w, i32_w]
    rfl
  refine pure_ (i := 4) (N := some 5) (v := ?_) (a' := ?_) #[true, true, true, true, true, false, false, false, false] rfl rfl (any_of HT_.out (by kernel_rfl)) (fun _ _ _ h => h) (Or.inl ⟨by rfl, ?_⟩) ?_ ?_
  rotate_left
  · intro w'
    go_simp
    with_reducible rfl
  rotate_left
  · simp only [Act.put, List.setIfInBounds_toArray, List.set_cons_zero, List.set_cons_succ, i64_w, i32_w]
    rfl
  refine pure_ (i := 5) (N := some 10) (v := ?_) (a' := ?_) #[true, true, true, true, true, true, false, false, false] rfl rfl (any_of HT_.out (by kernel_rfl)) (fun _ _ _ h => h) (Or.inl ⟨by rfl, ?_⟩) ?_ ?_
  rotate_left
  · intro w'
    go_simp
    with_reducible rfl
  rotate_left
  · simp only [Act.put, List.setIfInBounds_toArray, List.set_cons_zero, List.set_cons_succ, i64_w, i32_w]
    rfl
  refine pure_ (i := 6) (N := some 11) (v := ?_) (a' := ?_) #[true, true, true, true, true, true, true, false, false] rfl rfl (any_of HT_.out (by kernel_rfl)) (fun _ _ _ h => h) (Or.inl ⟨by rfl, ?_⟩) ?_ ?_
  rotate_left
  · intro w'
    go_simp
    with_reducible rfl
  rotate_left
  · simp only [Act.put, List.setIfInBounds_toArray, List.set_cons_zero, List.set_cons_succ, i64_w, i32_w]
    rfl
  refine pure_ (i := 7) (N := some 3) (v := ?_) (a' := ?_) #[true, true, true, true, true, true, true, true, false] rfl rfl (any_of HT_.out (by kernel_rfl)) (fun _ _ _ h => h) (Or.inl ⟨by rfl, ?_⟩) ?_ ?_
  rotate_left
  · intro w'
    go_simp
    with_reducible rfl
  rotate_left
  · simp only [Act.put, List.setIfInBounds_toArray, List.set_cons_zero, List.set_cons_succ, i64_w, i32_w]
    rfl
  refine pure_ (i := 8) (N := some 4) (v := ?_) (a' := ?_) #[true, true, true, true, true, true, true, true, true] rfl rfl (any_of HT_.out (by kernel_rfl)) (fun _ _ _ h => h) (Or.inl ⟨by rfl, ?_⟩) ?_ ?_
  rotate_left
  · intro w'
    go_simp
    with_reducible rfl
  rotate_left
  · simp only [Act.put, List.setIfInBounds_toArray, List.set_cons_zero, List.set_cons_succ, i64_w, i32_w]
    rfl
  refine done_ (done_of HT_.out (by kernel_rfl)) ?_
  obtain ⟨Ao14, co14, eo14⟩ := Kd.V_slice HO1153.out
  subst eo14
  try go_wp2_with (first | ((with_reducible refine gate_callee (f := 106) rfl ?_); refine goesL_ (some 13) rfl rfl Try.func106 (by kernel_rfl) rfl #[.slice Ao14 t1151.length co14] rfl (by (try simp only [List.map_toArray, List.map_cons, List.map_nil]); first | done | rfl | (simp only [List.length_drop, List.length_take]; rfl)) ?_; (with_reducible refine (scalar_reduce.calls k (fun k_ => (some k_ ≠ (.slice Ao12 t1148.length co12 : Value).ownBlock ∧ (k_ ≠ gb1143 ∧ k_ ≠ gb1144))) _ _ t1151 t1155 _ ?side1 A5.out).mono ?_); (case side1 => exact HO1153.out); rintro e w15 ⟨rfl, hb⟩; refine ⟨_, rfl, ?_⟩; have n0_ := Aside0.mk (Kd.V_below (by (with_reducible repeat (first | apply Kd.V_alloc | apply Kd.V_drewN | apply Kd.V_drew)); exact HO1147.out) hb); have n1_ := Aside0.mk (Kd.R_below (by (with_reducible repeat (first | apply Kd.R_alloc | apply Kd.R_drewN | apply Kd.R_drew)); exact HO1150.out) hb); have n2_ := Aside0.mk (Kd.V_below (by (with_reducible repeat (first | apply Kd.V_alloc | apply Kd.V_drewN | apply Kd.V_drew)); exact HO1153.out) hb); have n3_ := Aside0.mk (blk_below (g := gb1143) (o := .cells (sv a0_0) 73 (0, 0)) (by (with_reducible repeat (first | refine blk_drewN ?_ _ | refine blk_drew ?_ | refine blk_alloc ?_ _)); exact BK1143.out) hb); have n4_ := Aside0.mk (blk_below (g := gb1144) (o := .cells zv 73 (0, 0)) (by (with_reducible repeat (first | refine blk_drewN ?_ _ | refine blk_drew ?_ | refine blk_alloc ?_ _)); exact BK1144.out) hb); have n5_ := Aside0.mk (below_step (by repeat (first | (with_reducible first | exact HB.out | apply below_alloc | apply pw_below_drewN | apply below_drew1 | refine below_set ?_ GE1143.out | refine below_set ?_ GE1144.out) | exact HB.out)) hb); clear HO1147; clear HO1150; clear HO1153; clear BK1143; clear BK1144; clear HB; have HO1147 := n0_; have HO1150 := n1_; have HO1153 := n2_; have BK1143 := n3_; have BK1144 := n4_; have HB := n5_; clear n0_ n1_ n2_ n3_ n4_ n5_; (try clear hb); (try clear hb2); (try clear hk); (try clear hi); have hnb16 := NB1144_1143.out; have hnc16 := NB1143_1144.out; obtain ⟨hcz17_0, hcz17_0_c1, hcz17_0_c2, hcz17_0_c3, hcz17_0_c4, hcz17_0_c5, hcz17_0_c6⟩ := c7_of (a := z7) BK1144.out rfl; obtain ⟨hfz17_0, hfz17_0_c1, hfz17_0_c2, hfz17_0_c3, hfz17_0_c4, hfz17_0_c5, hfz17_0_c6⟩ := fz7 BK1144.out))
  refine bodyPost_ret (results_cell_row rfl _ _ gb1144 73 (sv t1155) (0, 0) _ rfl (by (with_reducible repeat (first | refine blk_drewN ?_ _ | refine blk_drew ?_ | refine blk_alloc ?_ _)); refine blk_put7z ?_; (with_reducible repeat (first | refine blk_drewN ?_ _ | refine blk_drew ?_ | refine blk_alloc ?_ _)); exact BK1144.out) Try.underlying73 rfl (by kernel_rfl)) rfl ?_
  exact ⟨by first | rfl | (simp [errW_none, errW_some] <;> rfl) | (simp [*, errW_none, errW_some] <;> rfl), by repeat (first | (with_reducible first | exact HB.out | apply below_alloc | apply pw_below_drewN | apply below_drew1 | refine below_set ?_ GE1143.out | refine below_set ?_ GE1144.out) | exact HB.out)⟩
def scalar_Sub.f (k : Nat) (a0_0 : List Int) (a1_0 : List Int) : Option (List Int) := (scalar_Neg.f k a1_0).bind fun t1159 => ((scalar_Add.f k a0_0 t1159).bind fun t1160 => (some t1160))
theorem scalar_Sub.mono : ∀ a0 a1 k, LeO (scalar_Sub.f k a0 a1) (scalar_Sub.f (k + 1) a0 a1) := by
  intro a0 a1 k
  unfold scalar_Sub.f
  repeat' first
      | (with_reducible exact scalar_Add.mono _ _ _)
      | (with_reducible exact scalar_Neg.mono _ _)
      | (with_reducible exact LeO.refl _)
      | (with_reducible exact LeO.none _)
      | (with_reducible refine LeO.ite ?_ ?_)
      | (with_reducible refine LeO.bind ?_ (fun _ => ?_))
      | exact scalar_Add.mono _ _ _
      | exact scalar_Neg.mono _ _
      | exact LeO.none _
      | refine LeO.ite ?_ ?_
      | refine LeO.bind ?_ (fun _ => ?_)
set_option maxHeartbeats 8000000 in
set_option maxRecDepth 100000 in
theorem scalar_Sub.calls (k : Nat) (a0_0 : List Int) (a1_0 : List Int) (r : List Int) (w : World) (h : scalar_Sub.f k a0_0 a1_0 = some r) :
    Calls Try.prog 66 #[.agg (sv a0_0), .agg (sv a1_0)] w fun e w' => e = .returned (.agg (sv r)) ∧ Below w.heap.size w w' := by
  have hu73 := Try.underlying73
  have HB := Aside0.mk (Below.refl w.heap.size w)
  have H : ((scalar_Neg.f k a1_0).bind fun t1159 => ((scalar_Add.f k a0_0 t1159).bind fun t1160 => (some t1160))) = some r := h
  clear h
  replace H := Option.bind_eq_some_iff.mp H
  obtain ⟨t1159, A30, H⟩ := H
  replace H : ((scalar_Add.f k a0_0 t1159).bind fun t1160 => (some t1160)) = some r := H
  have A3 := Aside0.mk A30
  clear A30
  replace H := Option.bind_eq_some_iff.mp H
  obtain ⟨t1160, A40, H⟩ := H
  replace H : (some t1160) = some r := H
  have A4 := Aside0.mk A40
  clear A40
  obtain rfl := Option.some.inj H
  go_enter Try.func66, Try.ntmps66
  try go_wp2_with (first | ((with_reducible refine gate_dst (N := 2) rfl ?_); refine box_event ?hg (N := 2) ?hd (cs := (sv a0_0)) (t := 73) ?hr ?_; (case hd => rfl); (case hg => rfl); (case hr => first | (go_simp; done) | (go_simp; rfl)); intro gb1156 hg w5 hbox hb; have n0_ := Aside0.mk (below_step (by repeat (first | (with_reducible first | exact HB.out | apply below_alloc | apply pw_below_drewN | apply below_drew1) | exact HB.out)) hb); have n1_ := Aside0.mk (hbox); have n2_ := Aside0.mk ((by rw [hg]; exact (below_size (by repeat (first | (with_reducible first | exact HB.out | apply below_alloc | apply pw_below_drewN | apply below_drew1) | exact HB.out))) : w.heap.size ≤ gb1156)); have n3_ := Aside0.mk ((by rw [hg]; exact (below_size (by repeat (first | (with_reducible first | exact HB.out | apply below_alloc | apply pw_below_drewN | apply below_drew1) | exact HB.out))) : w.heap.size ≤ gb1156)); clear HB; have HB := n0_; have BK1156 := n1_; have GW1156 := n2_; have GE1156 := n3_; clear n0_ n1_ n2_ n3_; clear hb hbox hg) | ((with_reducible refine gate_dst (N := 3) rfl ?_); refine box_event ?hg (N := 3) ?hd (cs := (sv a1_0)) (t := 73) ?hr ?_; (case hd => rfl); (case hg => rfl); (case hr => first | (go_simp; done) | (go_simp; rfl)); intro gb1157 hg w6 hbox hb; have n0_ := Aside0.mk (blk_below (g := gb1156) (o := .cells (sv a0_0) 73 (0, 0)) (by (with_reducible repeat (first | refine blk_drewN ?_ _ | refine blk_drew ?_ | refine blk_alloc ?_ _)); exact BK1156.out) hb); have n1_ := Aside0.mk (below_step (by repeat (first | (with_reducible first | exact HB.out | apply below_alloc | apply pw_below_drewN | apply below_drew1 | refine below_set ?_ GE1156.out) | exact HB.out)) hb); have n2_ := Aside0.mk (hbox); have n3_ := Aside0.mk ((by rw [hg]; exact (below_size (by repeat (first | (with_reducible first | exact HB.out | apply below_alloc | apply pw_below_drewN | apply below_drew1 | refine below_set ?_ GE1156.out) | exact HB.out))) : w.heap.size ≤ gb1157)); have n4_ := Aside0.mk ((by rw [hg]; exact (below_size (by repeat (first | (with_reducible first | exact HB.out | apply below_alloc | apply pw_below_drewN | apply below_drew1 | refine below_set ?_ GE1156.out) | exact HB.out))) : w.heap.size ≤ gb1157)); have n5_ := Aside0.mk ((by rw [hg]; exact Nat.ne_of_lt (blk_lt (g := gb1156) (o := .cells (sv a0_0) 73 (0, 0)) (by (with_reducible repeat (first | refine blk_drewN ?_ _ | refine blk_drew ?_ | refine blk_alloc ?_ _)); exact BK1156.out)) : gb1156 ≠ gb1157)); have n6_ := Aside0.mk ((by rw [hg]; exact Nat.ne_of_gt (blk_lt (g := gb1156) (o := .cells (sv a0_0) 73 (0, 0)) (by (with_reducible repeat (first | refine blk_drewN ?_ _ | refine blk_drew ?_ | refine blk_alloc ?_ _)); exact BK1156.out)) : gb1157 ≠ gb1156)); clear BK1156; clear HB; have BK1156 := n0_; have HB := n1_; have BK1157 := n2_; have GW1157 := n3_; have GE1157 := n4_; have NB1156_1157 := n5_; have NB1157_1156 := n6_; clear n0_ n1_ n2_ n3_ n4_ n5_ n6_; clear hb hbox hg) | ((with_reducible refine gate_dst (N := 4) rfl ?_); refine box_event ?hg (N := 4) ?hd (cs := zv) (t := 73) ?hr ?_; (case hd => rfl); (case hg => rfl); (case hr => first | (go_simp; done) | (go_simp; rfl)); intro gb1158 hg w7 hbox hb; have n0_ := Aside0.mk (blk_below (g := gb1156) (o := .cells (sv a0_0) 73 (0, 0)) (by (with_reducible repeat (first | refine blk_drewN ?_ _ | refine blk_drew ?_ | refine blk_alloc ?_ _)); exact BK1156.out) hb); have n1_ := Aside0.mk (blk_below (g := gb1157) (o := .cells (sv a1_0) 73 (0, 0)) (by (with_reducible repeat (first | refine blk_drewN ?_ _ | refine blk_drew ?_ | refine blk_alloc ?_ _)); exact BK1157.out) hb); have n2_ := Aside0.mk (below_step (by repeat (first | (with_reducible first | exact HB.out | apply below_alloc | apply pw_below_drewN | apply below_drew1 | refine below_set ?_ GE1156.out | refine below_set ?_ GE1157.out) | exact HB.out)) hb); have n3_ := Aside0.mk (hbox); have n4_ := Aside0.mk ((by rw [hg]; exact (below_size (by repeat (first | (with_reducible first | exact HB.out | apply below_alloc | apply pw_below_drewN | apply below_drew1 | refine below_set ?_ GE1156.out | refine below_set ?_ GE1157.out) | exact HB.out))) : w.heap.size ≤ gb1158)); have n5_ := Aside0.mk ((by rw [hg]; exact (below_size (by repeat (first | (with_reducible first | exact HB.out | apply below_alloc | apply pw_below_drewN | apply below_drew1 | refine below_set ?_ GE1156.out | refine below_set ?_ GE1157.out) | exact HB.out))) : w.heap.size ≤ gb1158)); have n6_ := Aside0.mk ((by rw [hg]; exact Nat.ne_of_lt (blk_lt (g := gb1156) (o := .cells (sv a0_0) 73 (0, 0)) (by (with_reducible repeat (first | refine blk_drewN ?_ _ | refine blk_drew ?_ | refine blk_alloc ?_ _)); exact BK1156.out)) : gb1156 ≠ gb1158)); have n7_ := Aside0.mk ((by rw [hg]; exact Nat.ne_of_gt (blk_lt (g := gb1156) (o := .cells (sv a0_0) 73 (0, 0)) (by (with_reducible repeat (first | refine blk_drewN ?_ _ | refine blk_drew ?_ | refine blk_alloc ?_ _)); exact BK1156.out)) : gb1158 ≠ gb1156)); have n8_ := Aside0.mk ((by rw [hg]; exact Nat.ne_of_lt (blk_lt (g := gb1157) (o := .cells (sv a1_0) 73 (0, 0)) (by (with_reducible repeat (first | refine blk_drewN ?_ _ | refine blk_drew ?_ | refine blk_alloc ?_ _)); exact BK1157.out)) : gb1157 ≠ gb1158)); have n9_ := Aside0.mk ((by rw [hg]; exact Nat.ne_of_gt (blk_lt (g := gb1157) (o := .cells (sv a1_0) 73 (0, 0)) (by (with_reducible repeat (first | refine blk_drewN ?_ _ | refine blk_drew ?_ | refine blk_alloc ?_ _)); exact BK1157.out)) : gb1158 ≠ gb1157)); clear BK1156; clear BK1157; clear HB; have BK1156 := n0_; have BK1157 := n1_; have HB := n2_; have BK1158 := n3_; have GW1158 := n4_; have GE1158 := n5_; have NB1156_1158 := n6_; have NB1158_1156 := n7_; have NB1157_1158 := n8_; have NB1158_1157 := n9_; clear n0_ n1_ n2_ n3_ n4_ n5_ n6_ n7_ n8_ n9_; clear hb hbox hg))
  have n0_ := Aside0.mk (blk_drew BK1156.out)
  have n1_ := Aside0.mk (blk_drew BK1157.out)
  have n2_ := Aside0.mk (blk_drew BK1158.out)
  have n3_ := Aside0.mk (below_drew1 HB.out)
  clear BK1156
  clear BK1157
  clear BK1158
  clear HB
  have BK1156 := n0_
  have BK1157 := n1_
  have BK1158 := n2_
  have HB := n3_
  clear n0_ n1_ n2_ n3_
  refine start_ (n := 5) (S := fun w' => c7 w' gb1156 a0_0 ∧ c7 w' gb1157 a1_0) (ds := []) #[false, false, false, false, false] (by kernel_rfl) rfl rfl ⟨c7_of BK1156.out rfl, c7_of BK1157.out rfl⟩ (fun hHeld => ?_)
  generalize w7.drew = w8 at BK1156 BK1157 BK1158 HB hHeld ⊢
  refine take_ (i := 0) (N := some 5) (v := ?_) (a' := ?_) #[true, false, false, false, false] rfl rfl (by kernel_rfl) (fun _ _ _ h => h) (Or.inl ⟨by rfl, ?_⟩) hHeld ?_ ?_
  rotate_left
  · rintro w' ⟨⟨s0, s0_c1, s0_c2, s0_c3, s0_c4, s0_c5, s0_c6⟩, ⟨s1, s1_c1, s1_c2, s1_c3, s1_c4, s1_c5, s1_c6⟩⟩
    go_simp
    with_reducible rfl
  rotate_left
  · simp only [Act.put, List.setIfInBounds_toArray, List.set_cons_zero, List.set_cons_succ, i64_w, i32_w]
    rfl
  refine take_ (i := 1) (N := some 6) (v := ?_) (a' := ?_) #[true, true, false, false, false] rfl rfl (by kernel_rfl) (fun _ _ _ h => h) (Or.inl ⟨by rfl, ?_⟩) hHeld ?_ ?_
  rotate_left
  · rintro w' ⟨⟨s0, s0_c1, s0_c2, s0_c3, s0_c4, s0_c5, s0_c6⟩, ⟨s1, s1_c1, s1_c2, s1_c3, s1_c4, s1_c5, s1_c6⟩⟩
    go_simp
    with_reducible rfl
  rotate_left
  · simp only [Act.put, List.setIfInBounds_toArray, List.set_cons_zero, List.set_cons_succ, i64_w, i32_w]
    rfl
  refine one_ (i := 2) (N := some 7) #[true, true, true, false, false] rfl rfl (by kernel_rfl) (by decide) (fun K hK => ?_)
  refine goes_ Try.func68 (by kernel_rfl) rfl #[.agg (sv a1_0)] (by rfl) rfl rfl (by (try simp only [List.map_toArray, List.map_cons, List.map_nil]); first | done | rfl | (simp only [List.length_drop, List.length_take]; rfl)) ?_
  with_reducible refine (scalar_Neg.calls k a1_0 t1159 _ A3.out).mono ?_
  rintro e w9 ⟨rfl, hb⟩
  refine ⟨_, rfl, ?_⟩
  have n0_ := Aside0.mk (blk_below (g := gb1156) (o := .cells (sv a0_0) 73 (0, 0)) (by (with_reducible repeat (first | refine blk_drewN ?_ _ | refine blk_drew ?_ | refine blk_alloc ?_ _)); exact BK1156.out) hb)
  have n1_ := Aside0.mk (blk_below (g := gb1157) (o := .cells (sv a1_0) 73 (0, 0)) (by (with_reducible repeat (first | refine blk_drewN ?_ _ | refine blk_drew ?_ | refine blk_alloc ?_ _)); exact BK1157.out) hb)
  have n2_ := Aside0.mk (blk_below (g := gb1158) (o := .cells zv 73 (0, 0)) (by (with_reducible repeat (first | refine blk_drewN ?_ _ | refine blk_drew ?_ | refine blk_alloc ?_ _)); exact BK1158.out) hb)
  have n3_ := Aside0.mk (below_step (by repeat (first | (with_reducible first | exact HB.out | apply below_alloc | apply pw_below_drewN | apply below_drew1 | refine below_set ?_ GE1156.out | refine below_set ?_ GE1157.out | refine below_set ?_ GE1158.out) | exact HB.out)) hb)
  clear BK1156
  clear BK1157
  clear BK1158
  clear HB
  have BK1156 := n0_
  have BK1157 := n1_
  have BK1158 := n2_
  have HB := n3_
  clear n0_ n1_ n2_ n3_
  (try clear hb)
  (try clear hb2)
  (try clear hk)
  (try clear hi)
  refine hK.out _ _ ⟨c7_of BK1156.out rfl, c7_of BK1157.out rfl⟩ (fun hHeld => ?_)
  clear hK K
  refine norm_ (a' := ?_) ?_ ?_
  rotate_left
  · show Act.put _ (some 7) _ = _
    simp only [Act.put, List.setIfInBounds_toArray, List.set_cons_zero, List.set_cons_succ, i64_w, i32_w]
    rfl
  refine one_ (i := 3) (N := some 8) #[true, true, true, true, false] rfl rfl (by kernel_rfl) (by decide) (fun K hK => ?_)
  refine goes_ Try.func64 (by kernel_rfl) rfl #[.agg (sv a0_0), .agg (sv t1159)] (by rfl) rfl rfl (by (try simp only [List.map_toArray, List.map_cons, List.map_nil]); first | done | rfl | (simp only [List.length_drop, List.length_take]; rfl)) ?_
  with_reducible refine (scalar_Add.calls k a0_0 t1159 t1160 _ A4.out).mono ?_
  rintro e w10 ⟨rfl, hb⟩
  refine ⟨_, rfl, ?_⟩
  have n0_ := Aside0.mk (blk_below (g := gb1156) (o := .cells (sv a0_0) 73 (0, 0)) (by (with_reducible repeat (first | refine blk_drewN ?_ _ | refine blk_drew ?_ | refine blk_alloc ?_ _)); exact BK1156.out) hb)
  have n1_ := Aside0.mk (blk_below (g := gb1157) (o := .cells (sv a1_0) 73 (0, 0)) (by (with_reducible repeat (first | refine blk_drewN ?_ _ | refine blk_drew ?_ | refine blk_alloc ?_ _)); exact BK1157.out) hb)
  have n2_ := Aside0.mk (blk_below (g := gb1158) (o := .cells zv 73 (0, 0)) (by (with_reducible repeat (first | refine blk_drewN ?_ _ | refine blk_drew ?_ | refine blk_alloc ?_ _)); exact BK1158.out) hb)
  have n3_ := Aside0.mk (below_step (by repeat (first | (with_reducible first | exact HB.out | apply below_alloc | apply pw_below_drewN | apply below_drew1 | refine below_set ?_ GE1156.out | refine below_set ?_ GE1157.out | refine below_set ?_ GE1158.out) | exact HB.out)) hb)
  clear BK1156
  clear BK1157
  clear BK1158
  clear HB
  have BK1156 := n0_
  have BK1157 := n1_
  have BK1158 := n2_
  have HB := n3_
  clear n0_ n1_ n2_ n3_
  (try clear hb)
  (try clear hb2)
  (try clear hk)
  (try clear hi)
  refine hK.out _ _ ⟨c7_of BK1156.out rfl, c7_of BK1157.out rfl⟩ (fun hHeld => ?_)
  clear hK K
  refine norm_ (a' := ?_) ?_ ?_
  rotate_left
  · show Act.put _ (some 8) _ = _
    simp only [Act.put, List.setIfInBounds_toArray, List.set_cons_zero, List.set_cons_succ, i64_w, i32_w]
    rfl
  refine one_ (i := 4) (N := none) #[true, true, true, true, true] rfl rfl (by kernel_rfl) (by decide) (fun K hK => ?_)
  obtain ⟨hs11, hs11_c1, hs11_c2, hs11_c3, hs11_c4, hs11_c5, hs11_c6⟩ := c7_of (a := z7) BK1158.out rfl
  obtain ⟨hfs11, hfs11_c1, hfs11_c2, hfs11_c3, hfs11_c4, hfs11_c5, hfs11_c6⟩ := fz7 BK1158.out
  have hns11_0 := NB1156_1158.out
  have hns11_1 := NB1157_1158.out
  have hms11_0 := NB1158_1156.out
  have hms11_1 := NB1158_1157.out
  refine skip_ (w1 := ?_) (by rfl) rfl ?_ ?_
  rotate_left
  · go_simp
    rfl
  refine hK.out _ _ ⟨(c7_far7 (p := gb1158) NB1156_1158.out hHeld.1), (c7_far7 (p := gb1158) NB1157_1158.out hHeld.2)⟩ (fun hHeld => ?_)
  clear hK K
  refine done_ (by kernel_rfl) ?_
  try go_wp2
  refine bodyPost_ret (results_cell_row rfl _ _ gb1158 73 (sv t1160) (0, 0) _ rfl (by (with_reducible repeat (first | refine blk_drewN ?_ _ | refine blk_drew ?_ | refine blk_alloc ?_ _)); refine blk_put7z ?_; (with_reducible repeat (first | refine blk_drewN ?_ _ | refine blk_drew ?_ | refine blk_alloc ?_ _)); exact BK1158.out) Try.underlying73 rfl (by kernel_rfl)) rfl ?_
  exact ⟨by first | rfl | (simp [errW_none, errW_some] <;> rfl) | (simp [*, errW_none, errW_some] <;> rfl), by repeat (first | (with_reducible first | exact HB.out | apply below_alloc | apply pw_below_drewN | apply below_drew1 | refine below_set ?_ GE1156.out | refine below_set ?_ GE1157.out | refine below_set ?_ GE1158.out) | exact HB.out)⟩
def scalar_Int.f (k : Nat) (a0 : Int) : Option (List Int) := if a0 < 0 then ((scalar_reduce.f k (([IntKind.u64.wrap (wrap64 (-a0))] : List Int))).bind fun t1174 => ((scalar_Neg.f k t1174).bind fun t1175 => (some t1175))) else ((scalar_reduce.f k (([IntKind.u64.wrap (a0)] : List Int))).bind fun t1179 => (some t1179))
theorem scalar_Int.mono : ∀ a0 k, LeO (scalar_Int.f k a0) (scalar_Int.f (k + 1) a0) := by
  intro a0 k
  unfold scalar_Int.f
  repeat' first
      | (with_reducible exact scalar_Neg.mono _ _)
      | (with_reducible exact scalar_reduce.mono _ _)
      | (with_reducible exact LeO.refl _)
      | (with_reducible exact LeO.none _)
      | (with_reducible refine LeO.ite ?_ ?_)
      | (with_reducible refine LeO.bind ?_ (fun _ => ?_))
      | exact scalar_Neg.mono _ _
      | exact scalar_reduce.mono _ _
      | exact LeO.none _
      | refine LeO.ite ?_ ?_
      | refine LeO.bind ?_ (fun _ => ?_)
set_option maxHeartbeats 8000000 in
set_option maxRecDepth 100000 in
theorem scalar_Int.calls (k : Nat) (a0 : Int) (r : List Int) (w : World) (h : scalar_Int.f k a0 = some r) :
    Calls Try.prog 69 #[.int .i64 a0] w fun e w' => e = .returned (.agg (sv r)) ∧ Below w.heap.size w w' := by
  have hu73 := Try.underlying73
  have HB := Aside0.mk (Below.refl w.heap.size w)
  have H : (if a0 < 0 then ((scalar_reduce.f k (([IntKind.u64.wrap (wrap64 (-a0))] : List Int))).bind fun t1174 => ((scalar_Neg.f k t1174).bind fun t1175 => (some t1175))) else ((scalar_reduce.f k (([IntKind.u64.wrap (a0)] : List Int))).bind fun t1179 => (some t1179))) = some r := h
  clear h
  by_cases c2 : a0 < 0
  · rw [if_pos c2] at H
    have c2b0 : decide (a0 < 0) = true := decide_eq_true c2
    clear c2
    obtain ⟨y1171, hy1171⟩ : ∃ y_ : List Int, y_ = (([IntKind.u64.wrap (wrap64 (-a0))] : List Int)) := ⟨_, rfl⟩
    replace H : ((scalar_reduce.f k y1171).bind fun t1174 => ((scalar_Neg.f k t1174).bind fun t1175 => (some t1175))) = some r := by first | (rw [hy1171]; with_reducible exact H) | (have H2_ := (Option.bind_some _ _).symm.trans H; rw [hy1171]; with_reducible exact H2_) | (have H2_ := (Option.bind_some _ _).symm.trans H; with_reducible exact H2_) | with_reducible exact H | (rw [hy1171]; exact H) | exact H
    have Ny1171 := Aside0.mk hy1171
    clear hy1171
    replace H := Option.bind_eq_some_iff.mp H
    obtain ⟨t1174, A30, H⟩ := H
    replace H : ((scalar_Neg.f k t1174).bind fun t1175 => (some t1175)) = some r := H
    have A3 := Aside0.mk A30
    clear A30
    replace H := Option.bind_eq_some_iff.mp H
    obtain ⟨t1175, A40, H⟩ := H
    replace H : (some t1175) = some r := H
    have A4 := Aside0.mk A40
    clear A40
    obtain rfl := Option.some.inj H
    go_enter Try.func69, Try.ntmps69
    go_wp2_with (first | ((with_reducible refine gate_dst (N := 2) rfl ?_); refine box_event ?hg (N := 2) ?hd (cs := zv) (t := 73) ?hr ?_; (case hd => rfl); (case hg => rfl); (case hr => first | (go_simp; done) | (go_simp; rfl)); intro gb1170 hg w5 hbox hb; have n0_ := Aside0.mk (below_step (by repeat (first | (with_reducible first | exact HB.out | apply below_alloc | apply pw_below_drewN | apply below_drew1) | exact HB.out)) hb); have n1_ := Aside0.mk (hbox); have n2_ := Aside0.mk ((by rw [hg]; exact (below_size (by repeat (first | (with_reducible first | exact HB.out | apply below_alloc | apply pw_below_drewN | apply below_drew1) | exact HB.out))) : w.heap.size ≤ gb1170)); have n3_ := Aside0.mk ((by rw [hg]; exact (below_size (by repeat (first | (with_reducible first | exact HB.out | apply below_alloc | apply pw_below_drewN | apply below_drew1) | exact HB.out))) : w.heap.size ≤ gb1170)); clear HB; have HB := n0_; have BK1170 := n1_; have GW1170 := n2_; have GE1170 := n3_; clear n0_ n1_ n2_ n3_; clear hb hbox hg) | ((with_reducible refine gate_dst (N := 8) rfl ?_); refine Kd.R_lit (Kd.int .u64) _ 62 ?hg (N := 8) ?hd (xs := ([IntKind.u64.wrap (wrap64 (-a0))] : List Int)) (inner := [.int .u64 (IntKind.u64.wrap (wrap64 (-a0)))]) (ok := fun _ => True) (okp := fun _ => True) ?hr ?hp (fun _ hk => hk) trivial (Below.refl _ _) (Nat.le_refl _) (by simp) ?_; (case hd => rfl); (case hg => rfl); (case hr => first | (go_simp; done) | (go_simp; rfl)); (case hp => exact (Reps.one (show Kd.M (Kd.int .u64) _ _ _ (IntKind.u64.wrap (wrap64 (-a0))) [.int .u64 (IntKind.u64.wrap (wrap64 (-a0)))] from rfl) (Reps.none _ _))); intro v1172 w6 ho7 hb hg_ hnew_; clear hg_ hnew_; (first | rw [← Ny1171.out] at ho7 | (simp only [Int.reduceToNat] at ho7; rw [← Ny1171.out] at ho7)); have n0_ := Aside0.mk (Kd.R_lower ho7 (below_size (by repeat (first | (with_reducible first | exact HB.out | apply below_alloc | apply pw_below_drewN | apply below_drew1 | refine below_set ?_ GE1170.out) | exact HB.out)))); have n1_ := Aside0.mk (blk_below (g := gb1170) (o := .cells zv 73 (0, 0)) (by (with_reducible repeat (first | refine blk_drewN ?_ _ | refine blk_drew ?_ | refine blk_alloc ?_ _)); exact BK1170.out) hb); have n2_ := Aside0.mk (below_step (by repeat (first | (with_reducible first | exact HB.out | apply below_alloc | apply pw_below_drewN | apply below_drew1 | refine below_set ?_ GE1170.out) | exact HB.out)) hb); clear BK1170; clear HB; have HO1173 := n0_; have BK1170 := n1_; have HB := n2_; clear n0_ n1_ n2_; clear hb ho7; obtain ⟨Ao8, co8, eo8⟩ := Kd.R_slice HO1173.out; subst eo8) | ((with_reducible refine gate_callee (f := 106) rfl ?_); refine goesL_ (some 9) rfl rfl Try.func106 (by kernel_rfl) rfl #[.slice Ao8 y1171.length co8] rfl (by (try simp only [List.map_toArray, List.map_cons, List.map_nil]); first | done | rfl | (simp only [List.length_drop, List.length_take]; rfl)) ?_; (with_reducible refine (scalar_reduce.calls k (fun k_ => some k_ = (.slice Ao8 y1171.length co8 : Value).ownBlock) _ _ y1171 t1174 _ ?side1 A3.out).mono ?_); (case side1 => exact Kd.R_V (Kd.R_tight rfl (Kd.R_types (HO1173.out) BK1170.out (by decide)))); rintro e w9 ⟨rfl, hb⟩; refine ⟨_, rfl, ?_⟩; have n0_ := Aside0.mk (Kd.R_below (by (with_reducible repeat (first | apply Kd.R_alloc | apply Kd.R_drewN | apply Kd.R_drew)); exact HO1173.out) hb); have n1_ := Aside0.mk (blk_below (g := gb1170) (o := .cells zv 73 (0, 0)) (by (with_reducible repeat (first | refine blk_drewN ?_ _ | refine blk_drew ?_ | refine blk_alloc ?_ _)); exact BK1170.out) hb); have n2_ := Aside0.mk (below_step (by repeat (first | (with_reducible first | exact HB.out | apply below_alloc | apply pw_below_drewN | apply below_drew1 | refine below_set ?_ GE1170.out) | exact HB.out)) hb); clear HO1173; clear BK1170; clear HB; have HO1173 := n0_; have BK1170 := n1_; have HB := n2_; clear n0_ n1_ n2_; (try clear hb); (try clear hb2); (try clear hk); (try clear hi)) | ((with_reducible refine gate_callee (f := 68) rfl ?_); refine goesL_ (some 10) rfl rfl Try.func68 (by kernel_rfl) rfl #[.agg (sv t1174)] rfl (by (try simp only [List.map_toArray, List.map_cons, List.map_nil]); first | done | rfl | (simp only [List.length_drop, List.length_take]; rfl)) ?_; (with_reducible refine (scalar_Neg.calls k t1174 t1175 _ A4.out).mono ?_); rintro e w10 ⟨rfl, hb⟩; refine ⟨_, rfl, ?_⟩; have n0_ := Aside0.mk (Kd.R_below (by (with_reducible repeat (first | apply Kd.R_alloc | apply Kd.R_drewN | apply Kd.R_drew)); exact HO1173.out) hb); have n1_ := Aside0.mk (blk_below (g := gb1170) (o := .cells zv 73 (0, 0)) (by (with_reducible repeat (first | refine blk_drewN ?_ _ | refine blk_drew ?_ | refine blk_alloc ?_ _)); exact BK1170.out) hb); have n2_ := Aside0.mk (below_step (by repeat (first | (with_reducible first | exact HB.out | apply below_alloc | apply pw_below_drewN | apply below_drew1 | refine below_set ?_ GE1170.out) | exact HB.out)) hb); clear HO1173; clear BK1170; clear HB; have HO1173 := n0_; have BK1170 := n1_; have HB := n2_; clear n0_ n1_ n2_; (try clear hb); (try clear hb2); (try clear hk); (try clear hi); obtain ⟨hcz11_0, hcz11_0_c1, hcz11_0_c2, hcz11_0_c3, hcz11_0_c4, hcz11_0_c5, hcz11_0_c6⟩ := c7_of (a := z7) BK1170.out rfl; obtain ⟨hfz11_0, hfz11_0_c1, hfz11_0_c2, hfz11_0_c3, hfz11_0_c4, hfz11_0_c5, hfz11_0_c6⟩ := fz7 BK1170.out))
    refine bodyPost_ret (results_cell_row rfl _ _ gb1170 73 (sv t1175) (0, 0) _ rfl (by (with_reducible repeat (first | refine blk_drewN ?_ _ | refine blk_drew ?_ | refine blk_alloc ?_ _)); refine blk_put7z ?_; (with_reducible repeat (first | refine blk_drewN ?_ _ | refine blk_drew ?_ | refine blk_alloc ?_ _)); exact BK1170.out) Try.underlying73 rfl (by kernel_rfl)) rfl ?_
    exact ⟨by first | rfl | (simp [errW_none, errW_some] <;> rfl) | (simp [*, errW_none, errW_some] <;> rfl), by repeat (first | (with_reducible first | exact HB.out | apply below_alloc | apply pw_below_drewN | apply below_drew1 | refine below_set ?_ GE1170.out) | exact HB.out)⟩
  · rw [if_neg c2] at H
    have c2b0 : decide (a0 < 0) = false := decide_eq_false c2
    clear c2
    obtain ⟨y1176, hy1176⟩ : ∃ y_ : List Int, y_ = (([IntKind.u64.wrap (a0)] : List Int)) := ⟨_, rfl⟩
    replace H : ((scalar_reduce.f k y1176).bind fun t1179 => (some t1179)) = some r := by first | (rw [hy1176]; with_reducible exact H) | (have H2_ := (Option.bind_some _ _).symm.trans H; rw [hy1176]; with_reducible exact H2_) | (have H2_ := (Option.bind_some _ _).symm.trans H; with_reducible exact H2_) | with_reducible exact H | (rw [hy1176]; exact H) | exact H
    have Ny1176 := Aside0.mk hy1176
    clear hy1176
    replace H := Option.bind_eq_some_iff.mp H
    obtain ⟨t1179, A120, H⟩ := H
    replace H : (some t1179) = some r := H
    have A12 := Aside0.mk A120
    clear A120
    obtain rfl := Option.some.inj H
    go_enter Try.func69, Try.ntmps69
    go_wp2_with (first | ((with_reducible refine gate_dst (N := 2) rfl ?_); refine box_event ?hg (N := 2) ?hd (cs := zv) (t := 73) ?hr ?_; (case hd => rfl); (case hg => rfl); (case hr => first | (go_simp; done) | (go_simp; rfl)); intro gb1170 hg w13 hbox hb; have n0_ := Aside0.mk (below_step (by repeat (first | (with_reducible first | exact HB.out | apply below_alloc | apply pw_below_drewN | apply below_drew1) | exact HB.out)) hb); have n1_ := Aside0.mk (hbox); have n2_ := Aside0.mk ((by rw [hg]; exact (below_size (by repeat (first | (with_reducible first | exact HB.out | apply below_alloc | apply pw_below_drewN | apply below_drew1) | exact HB.out))) : w.heap.size ≤ gb1170)); have n3_ := Aside0.mk ((by rw [hg]; exact (below_size (by repeat (first | (with_reducible first | exact HB.out | apply below_alloc | apply pw_below_drewN | apply below_drew1) | exact HB.out))) : w.heap.size ≤ gb1170)); clear HB; have HB := n0_; have BK1170 := n1_; have GW1170 := n2_; have GE1170 := n3_; clear n0_ n1_ n2_ n3_; clear hb hbox hg) | ((with_reducible refine gate_dst (N := 13) rfl ?_); refine Kd.R_lit (Kd.int .u64) _ 62 ?hg (N := 13) ?hd (xs := ([IntKind.u64.wrap (a0)] : List Int)) (inner := [.int .u64 (IntKind.u64.wrap (a0))]) (ok := fun _ => True) (okp := fun _ => True) ?hr ?hp (fun _ hk => hk) trivial (Below.refl _ _) (Nat.le_refl _) (by simp) ?_; (case hd => rfl); (case hg => rfl); (case hr => first | (go_simp; done) | (go_simp; rfl)); (case hp => exact (Reps.one (show Kd.M (Kd.int .u64) _ _ _ (IntKind.u64.wrap (a0)) [.int .u64 (IntKind.u64.wrap (a0))] from rfl) (Reps.none _ _))); intro v1177 w14 ho15 hb hg_ hnew_; clear hg_ hnew_; (first | rw [← Ny1176.out] at ho15 | (simp only [Int.reduceToNat] at ho15; rw [← Ny1176.out] at ho15)); have n0_ := Aside0.mk (Kd.R_lower ho15 (below_size (by repeat (first | (with_reducible first | exact HB.out | apply below_alloc | apply pw_below_drewN | apply below_drew1 | refine below_set ?_ GE1170.out) | exact HB.out)))); have n1_ := Aside0.mk (blk_below (g := gb1170) (o := .cells zv 73 (0, 0)) (by (with_reducible repeat (first | refine blk_drewN ?_ _ | refine blk_drew ?_ | refine blk_alloc ?_ _)); exact BK1170.out) hb); have n2_ := Aside0.mk (below_step (by repeat (first | (with_reducible first | exact HB.out | apply below_alloc | apply pw_below_drewN | apply below_drew1 | refine below_set ?_ GE1170.out) | exact HB.out)) hb); clear BK1170; clear HB; have HO1178 := n0_; have BK1170 := n1_; have HB := n2_; clear n0_ n1_ n2_; clear hb ho15; obtain ⟨Ao16, co16, eo16⟩ := Kd.R_slice HO1178.out; subst eo16) | ((with_reducible refine gate_callee (f := 106) rfl ?_); refine goesL_ (some 14) rfl rfl Try.func106 (by kernel_rfl) rfl #[.slice Ao16 y1176.length co16] rfl (by (try simp only [List.map_toArray, List.map_cons, List.map_nil]); first | done | rfl | (simp only [List.length_drop, List.length_take]; rfl)) ?_; (with_reducible refine (scalar_reduce.calls k (fun k_ => some k_ = (.slice Ao16 y1176.length co16 : Value).ownBlock) _ _ y1176 t1179 _ ?side1 A12.out).mono ?_); (case side1 => exact Kd.R_V (Kd.R_tight rfl (Kd.R_types (HO1178.out) BK1170.out (by decide)))); rintro e w17 ⟨rfl, hb⟩; refine ⟨_, rfl, ?_⟩; have n0_ := Aside0.mk (Kd.R_below (by (with_reducible repeat (first | apply Kd.R_alloc | apply Kd.R_drewN | apply Kd.R_drew)); exact HO1178.out) hb); have n1_ := Aside0.mk (blk_below (g := gb1170) (o := .cells zv 73 (0, 0)) (by (with_reducible repeat (first | refine blk_drewN ?_ _ | refine blk_drew ?_ | refine blk_alloc ?_ _)); exact BK1170.out) hb); have n2_ := Aside0.mk (below_step (by repeat (first | (with_reducible first | exact HB.out | apply below_alloc | apply pw_below_drewN | apply below_drew1 | refine below_set ?_ GE1170.out) | exact HB.out)) hb); clear HO1178; clear BK1170; clear HB; have HO1178 := n0_; have BK1170 := n1_; have HB := n2_; clear n0_ n1_ n2_; (try clear hb); (try clear hb2); (try clear hk); (try clear hi); obtain ⟨hcz18_0, hcz18_0_c1, hcz18_0_c2, hcz18_0_c3, hcz18_0_c4, hcz18_0_c5, hcz18_0_c6⟩ := c7_of (a := z7) BK1170.out rfl; obtain ⟨hfz18_0, hfz18_0_c1, hfz18_0_c2, hfz18_0_c3, hfz18_0_c4, hfz18_0_c5, hfz18_0_c6⟩ := fz7 BK1170.out))
    refine bodyPost_ret (results_cell_row rfl _ _ gb1170 73 (sv t1179) (0, 0) _ rfl (by (with_reducible repeat (first | refine blk_drewN ?_ _ | refine blk_drew ?_ | refine blk_alloc ?_ _)); refine blk_put7z ?_; (with_reducible repeat (first | refine blk_drewN ?_ _ | refine blk_drew ?_ | refine blk_alloc ?_ _)); exact BK1170.out) Try.underlying73 rfl (by kernel_rfl)) rfl ?_
    exact ⟨by first | rfl | (simp [errW_none, errW_some] <;> rfl) | (simp [*, errW_none, errW_some] <;> rfl), by repeat (first | (with_reducible first | exact HB.out | apply below_alloc | apply pw_below_drewN | apply below_drew1 | refine below_set ?_ GE1170.out) | exact HB.out)⟩
end Go.Proofs.Ytdaehflffecllaa.N
namespace Go.Proofs.Ytdaehflffecllaa.N
open Go.RowKit Go.Proofs.YtdaehflffecllaaW.PrintWords Go.Proofs.YtdaehflffecllaaW.PrintLast Go.Proofs.YtdaehflffecllaaW.PrintMore
attribute [local go_sem] max2_int min2_int max_two min_two max_three min_three max_four min_four   -- for this text's walks alone
set_option linter.unusedVariables false
set_option linter.unusedSimpArgs false
def scalar_Half.f (k : Nat) (a0_0 : List Int) : Option (List Int) := (scalar_Scalar_nat.f a0_0).bind fun t1197 => ((number_Bit.f t1197 0).bind fun t1200 => (if t1200 = 1 then ((scalar_order.f k).bind fun t1201 => ((number_Add.f k t1197 t1201).bind fun t1204 => ((number_Shift.f k t1204 (-1)).bind fun bt1207 => ((scalar_reduce.f k bt1207.1).bind fun t1211 => (some t1211))))) else ((number_Shift.f k t1197 (-1)).bind fun bt1212 => ((scalar_reduce.f k bt1212.1).bind fun t1216 => (some t1216)))))
theorem scalar_Half.mono : ∀ a0 k, LeO (scalar_Half.f k a0) (scalar_Half.f (k + 1) a0) := by
  intro a0 k
  unfold scalar_Half.f
  repeat' first
      | (with_reducible exact number_Add.mono _ _ _)
      | (with_reducible exact number_Shift.mono _ _ _)
      | (with_reducible exact scalar_order.mono _)
      | (with_reducible exact scalar_reduce.mono _ _)
      | (with_reducible exact LeO.refl _)
      | (with_reducible exact LeO.none _)
      | (with_reducible refine LeO.ite ?_ ?_)
      | (with_reducible refine LeO.bind ?_ (fun _ => ?_))
      | exact number_Add.mono _ _ _
      | exact number_Shift.mono _ _ _
      | exact scalar_order.mono _
      | exact scalar_reduce.mono _ _
      | exact LeO.none _
      | refine LeO.ite ?_ ?_
      | refine LeO.bind ?_ (fun _ => ?_)
set_option maxHeartbeats 8000000 in
set_option maxRecDepth 100000 in
theorem scalar_Half.calls (k : Nat) (a0_0 : List Int) (r : List Int) (w : World) (h : scalar_Half.f k a0_0 = some r) :
    Calls Try.prog 74 #[.agg (sv a0_0)] w fun e w' => e = .returned (.agg (sv r)) ∧ Below w.heap.size w w' := by
  have hu73 := Try.underlying73
  have HB := Aside0.mk (Below.refl w.heap.size w)
  have H : ((scalar_Scalar_nat.f a0_0).bind fun t1197 => ((number_Bit.f t1197 0).bind fun t1200 => (if t1200 = 1 then ((scalar_order.f k).bind fun t1201 => ((number_Add.f k t1197 t1201).bind fun t1204 => ((number_Shift.f k t1204 (-1)).bind fun bt1207 => ((scalar_reduce.f k bt1207.1).bind fun t1211 => (some t1211))))) else ((number_Shift.f k t1197 (-1)).bind fun bt1212 => ((scalar_reduce.f k bt1212.1).bind fun t1216 => (some t1216)))))) = some r := h
  clear h
  replace H := Option.bind_eq_some_iff.mp H
  obtain ⟨t1197, A20, H⟩ := H
  replace H : ((number_Bit.f t1197 0).bind fun t1200 => (if t1200 = 1 then ((scalar_order.f k).bind fun t1201 => ((number_Add.f k t1197 t1201).bind fun t1204 => ((number_Shift.f k t1204 (-1)).bind fun bt1207 => ((scalar_reduce.f k bt1207.1).bind fun t1211 => (some t1211))))) else ((number_Shift.f k t1197 (-1)).bind fun bt1212 => ((scalar_reduce.f k bt1212.1).bind fun t1216 => (some t1216))))) = some r := H
  have A2 := Aside0.mk A20
  clear A20
  replace H := Option.bind_eq_some_iff.mp H
  obtain ⟨t1200, A30, H⟩ := H
  replace H : (if t1200 = 1 then ((scalar_order.f k).bind fun t1201 => ((number_Add.f k t1197 t1201).bind fun t1204 => ((number_Shift.f k t1204 (-1)).bind fun bt1207 => ((scalar_reduce.f k bt1207.1).bind fun t1211 => (some t1211))))) else ((number_Shift.f k t1197 (-1)).bind fun bt1212 => ((scalar_reduce.f k bt1212.1).bind fun t1216 => (some t1216)))) = some r := H
  have A3 := Aside0.mk A30
  clear A30
  by_cases c4 : t1200 = 1
  · rw [if_pos c4] at H
    have c4b0 : (t1200 == 1) = true := beq_iff_eq.mpr c4
    have c4b1 : (t1200 != 1) = false := bne_eq_false_iff_eq.mpr c4
    clear c4
    replace H := Option.bind_eq_some_iff.mp H
    obtain ⟨t1201, A50, H⟩ := H
    replace H : ((number_Add.f k t1197 t1201).bind fun t1204 => ((number_Shift.f k t1204 (-1)).bind fun bt1207 => ((scalar_reduce.f k bt1207.1).bind fun t1211 => (some t1211)))) = some r := H
    have A5 := Aside0.mk A50
    clear A50
    replace H := Option.bind_eq_some_iff.mp H
    obtain ⟨t1204, A60, H⟩ := H
    replace H : ((number_Shift.f k t1204 (-1)).bind fun bt1207 => ((scalar_reduce.f k bt1207.1).bind fun t1211 => (some t1211))) = some r := H
    have A6 := Aside0.mk A60
    clear A60
    replace H := Option.bind_eq_some_iff.mp H
    obtain ⟨⟨t1207, t1210⟩, A70, H⟩ := H
    replace H : ((scalar_reduce.f k t1207).bind fun t1211 => (some t1211)) = some r := H
    have A7 := Aside0.mk A70
    clear A70
    replace H := Option.bind_eq_some_iff.mp H
    obtain ⟨t1211, A80, H⟩ := H
    replace H : (some t1211) = some r := H
    have A8 := Aside0.mk A80
    clear A80
    obtain rfl := Option.some.inj H
    go_enter Try.func74, Try.ntmps74
    go_wp2_with (first | ((with_reducible refine gate_dst (N := 1) rfl ?_); refine box_event ?hg (N := 1) ?hd (cs := (sv a0_0)) (t := 73) ?hr ?_; (case hd => rfl); (case hg => rfl); (case hr => first | (go_simp; done) | (go_simp; rfl)); intro gb1195 hg w9 hbox hb; have n0_ := Aside0.mk (below_step (by repeat (first | (with_reducible first | exact HB.out | apply below_alloc | apply pw_below_drewN | apply below_drew1) | exact HB.out)) hb); have n1_ := Aside0.mk (hbox); have n2_ := Aside0.mk ((by rw [hg]; exact (below_size (by repeat (first | (with_reducible first | exact HB.out | apply below_alloc | apply pw_below_drewN | apply below_drew1) | exact HB.out))) : w.heap.size ≤ gb1195)); have n3_ := Aside0.mk ((by rw [hg]; exact (below_size (by repeat (first | (with_reducible first | exact HB.out | apply below_alloc | apply pw_below_drewN | apply below_drew1) | exact HB.out))) : w.heap.size ≤ gb1195)); clear HB; have HB := n0_; have BK1195 := n1_; have GW1195 := n2_; have GE1195 := n3_; clear n0_ n1_ n2_ n3_; clear hb hbox hg) | ((with_reducible refine gate_dst (N := 2) rfl ?_); refine box_event ?hg (N := 2) ?hd (cs := zv) (t := 73) ?hr ?_; (case hd => rfl); (case hg => rfl); (case hr => first | (go_simp; done) | (go_simp; rfl)); intro gb1196 hg w10 hbox hb; have n0_ := Aside0.mk (blk_below (g := gb1195) (o := .cells (sv a0_0) 73 (0, 0)) (by (with_reducible repeat (first | refine blk_drewN ?_ _ | refine blk_drew ?_ | refine blk_alloc ?_ _)); exact BK1195.out) hb); have n1_ := Aside0.mk (below_step (by repeat (first | (with_reducible first | exact HB.out | apply below_alloc | apply pw_below_drewN | apply below_drew1 | refine below_set ?_ GE1195.out) | exact HB.out)) hb); have n2_ := Aside0.mk (hbox); have n3_ := Aside0.mk ((by rw [hg]; exact (below_size (by repeat (first | (with_reducible first | exact HB.out | apply below_alloc | apply pw_below_drewN | apply below_drew1 | refine below_set ?_ GE1195.out) | exact HB.out))) : w.heap.size ≤ gb1196)); have n4_ := Aside0.mk ((by rw [hg]; exact (below_size (by repeat (first | (with_reducible first | exact HB.out | apply below_alloc | apply pw_below_drewN | apply below_drew1 | refine below_set ?_ GE1195.out) | exact HB.out))) : w.heap.size ≤ gb1196)); have n5_ := Aside0.mk ((by rw [hg]; exact Nat.ne_of_lt (blk_lt (g := gb1195) (o := .cells (sv a0_0) 73 (0, 0)) (by (with_reducible repeat (first | refine blk_drewN ?_ _ | refine blk_drew ?_ | refine blk_alloc ?_ _)); exact BK1195.out)) : gb1195 ≠ gb1196)); have n6_ := Aside0.mk ((by rw [hg]; exact Nat.ne_of_gt (blk_lt (g := gb1195) (o := .cells (sv a0_0) 73 (0, 0)) (by (with_reducible repeat (first | refine blk_drewN ?_ _ | refine blk_drew ?_ | refine blk_alloc ?_ _)); exact BK1195.out)) : gb1196 ≠ gb1195)); clear BK1195; clear HB; have BK1195 := n0_; have HB := n1_; have BK1196 := n2_; have GW1196 := n3_; have GE1196 := n4_; have NB1195_1196 := n5_; have NB1196_1195 := n6_; clear n0_ n1_ n2_ n3_ n4_ n5_ n6_; clear hb hbox hg; have hnb11 := NB1195_1196.out; have hnc11 := NB1196_1195.out; obtain ⟨hcz12_0, hcz12_0_c1, hcz12_0_c2, hcz12_0_c3, hcz12_0_c4, hcz12_0_c5, hcz12_0_c6⟩ := c7_of (a := a0_0) BK1195.out rfl; obtain ⟨hfz12_0, hfz12_0_c1, hfz12_0_c2, hfz12_0_c3, hfz12_0_c4, hfz12_0_c5, hfz12_0_c6⟩ := fz7 BK1195.out) | ((with_reducible refine gate_callee (f := 107) rfl ?_); refine goesL_ (some 5) rfl rfl Try.func107 (by kernel_rfl) rfl #[.agg (sv a0_0)] rfl (by (try simp only [List.map_toArray, List.map_cons, List.map_nil]); first | done | rfl | (simp only [List.length_drop, List.length_take]; rfl)) ?_; (with_reducible refine (scalar_Scalar_nat.calls a0_0 t1197 _ A2.out).mono ?_); rintro e w13 ⟨v1198, rfl, ho0, hb⟩; refine ⟨_, rfl, ?_⟩; have n0_ := Aside0.mk (Kd.R_lower ho0 (below_size (by repeat (first | (with_reducible first | exact HB.out | apply below_alloc | apply pw_below_drewN | apply below_drew1 | refine below_set ?_ GE1195.out | refine below_set ?_ GE1196.out) | exact HB.out)))); have n1_ := Aside0.mk (blk_below (g := gb1195) (o := .cells (sv a0_0) 73 (0, 0)) (by (with_reducible repeat (first | refine blk_drewN ?_ _ | refine blk_drew ?_ | refine blk_alloc ?_ _)); exact BK1195.out) hb); have n2_ := Aside0.mk (blk_below (g := gb1196) (o := .cells zv 73 (0, 0)) (by (with_reducible repeat (first | refine blk_drewN ?_ _ | refine blk_drew ?_ | refine blk_alloc ?_ _)); exact BK1196.out) hb); have n3_ := Aside0.mk (below_step (by repeat (first | (with_reducible first | exact HB.out | apply below_alloc | apply pw_below_drewN | apply below_drew1 | refine below_set ?_ GE1195.out | refine below_set ?_ GE1196.out) | exact HB.out)) hb); clear BK1195; clear BK1196; clear HB; have HO1199 := n0_; have BK1195 := n1_; have BK1196 := n2_; have HB := n3_; clear n0_ n1_ n2_ n3_; (try clear hb); (try clear hb2); (try clear hk); (try clear hi); (try clear ho0); obtain ⟨Ao14, co14, eo14⟩ := Kd.R_slice HO1199.out; subst eo14) | ((with_reducible refine gate_callee (f := 37) rfl ?_); refine goesL_ (some 7) rfl rfl Try.func37 (by kernel_rfl) rfl #[.slice Ao14 t1197.length co14, .int .i64 0] rfl (by (try simp only [List.map_toArray, List.map_cons, List.map_nil]); first | done | rfl | (simp only [List.length_drop, List.length_take]; rfl)) ?_; (with_reducible refine (number_Bit.calls _ _ t1197 0 t1200 _ ?side1 ?side2 A3.out).mono ?_); (case side1 => repeat (first | exact (Kd.R_reads' HO1199.out).2.2 | (with_reducible refine Kd.C_alloc ?_ _) | (with_reducible refine Kd.C_drewN ?_ _) | (with_reducible refine Kd.C_drew ?_))); (case side2 => exact (Kd.R_reads' HO1199.out).2.1); rintro e w' ⟨rfl, ⟨nd, rfl⟩⟩; refine ⟨_, rfl, ?_⟩; (try (rw [drewN_self w13]; generalize hq_ : World.drewN w13 _ = w13; have n0_ : Aside0 (Kd.R (Kd.int .u64) 62 w13 w.heap.size (fun _ => True) (.slice Ao14 t1197.length co14) t1197) := ⟨by rw [← hq_]; exact (by (with_reducible repeat (first | apply Kd.R_alloc | apply Kd.R_drewN | apply Kd.R_drew)); exact HO1199.out)⟩; have n1_ : Aside0 (w13.heap[gb1195]? = some (.cells (sv a0_0) 73 (0, 0))) := ⟨by rw [← hq_]; exact (by (with_reducible repeat (first | refine blk_drewN ?_ _ | refine blk_drew ?_ | refine blk_alloc ?_ _)); exact BK1195.out)⟩; have n2_ : Aside0 (w13.heap[gb1196]? = some (.cells zv 73 (0, 0))) := ⟨by rw [← hq_]; exact (by (with_reducible repeat (first | refine blk_drewN ?_ _ | refine blk_drew ?_ | refine blk_alloc ?_ _)); exact BK1196.out)⟩; have n3_ : Aside0 (Below w.heap.size w w13) := ⟨by rw [← hq_]; exact (by repeat (first | (with_reducible first | exact HB.out | apply below_alloc | apply pw_below_drewN | apply below_drew1 | refine below_set ?_ GE1195.out | refine below_set ?_ GE1196.out) | exact HB.out))⟩; clear HO1199 BK1195 BK1196 HB hq_; have HO1199 := n0_; have BK1195 := n1_; have BK1196 := n2_; have HB := n3_; clear n0_ n1_ n2_ n3_))) | ((with_reducible refine gate_callee (f := 108) rfl ?_); refine goesL_ (some 10) rfl rfl Try.func108 (by kernel_rfl) rfl #[] rfl (by (try simp only [List.map_toArray, List.map_cons, List.map_nil]); first | done | rfl | (simp only [List.length_drop, List.length_take]; rfl)) ?_; (with_reducible refine (scalar_order.calls k  t1201 _ A5.out).mono ?_); rintro e w15 ⟨v1202, rfl, ho0, hb⟩; refine ⟨_, rfl, ?_⟩; have n0_ := Aside0.mk (Kd.R_below (by (with_reducible repeat (first | apply Kd.R_alloc | apply Kd.R_drewN | apply Kd.R_drew)); exact HO1199.out) hb); have n1_ := Aside0.mk (Kd.V_lower (Kd.V_mono (ok' := fun k_ => some k_ ≠ (.slice Ao14 t1197.length co14 : Value).ownBlock ∧ k_ ≠ gb1195 ∧ k_ ≠ gb1196) ho0 (fun k_ hk_ => ⟨(Kd.fresh' (Kd.R_lt (by (with_reducible repeat (first | apply Kd.R_alloc | apply Kd.R_drewN | apply Kd.R_drew)); exact HO1199.out)) k_ hk_), (Kd.freshB (g := gb1195) (o := .cells (sv a0_0) 73 (0, 0)) (by (with_reducible repeat (first | refine blk_drewN ?_ _ | refine blk_drew ?_ | refine blk_alloc ?_ _)); exact BK1195.out) k_ hk_), (Kd.freshB (g := gb1196) (o := .cells zv 73 (0, 0)) (by (with_reducible repeat (first | refine blk_drewN ?_ _ | refine blk_drew ?_ | refine blk_alloc ?_ _)); exact BK1196.out) k_ hk_)⟩)) (below_size (by repeat (first | (with_reducible first | exact HB.out | apply below_alloc | apply pw_below_drewN | apply below_drew1 | refine below_set ?_ GE1195.out | refine below_set ?_ GE1196.out) | exact HB.out)))); have n2_ := Aside0.mk (blk_below (g := gb1195) (o := .cells (sv a0_0) 73 (0, 0)) (by (with_reducible repeat (first | refine blk_drewN ?_ _ | refine blk_drew ?_ | refine blk_alloc ?_ _)); exact BK1195.out) hb); have n3_ := Aside0.mk (blk_below (g := gb1196) (o := .cells zv 73 (0, 0)) (by (with_reducible repeat (first | refine blk_drewN ?_ _ | refine blk_drew ?_ | refine blk_alloc ?_ _)); exact BK1196.out) hb); have n4_ := Aside0.mk (below_step (by repeat (first | (with_reducible first | exact HB.out | apply below_alloc | apply pw_below_drewN | apply below_drew1 | refine below_set ?_ GE1195.out | refine below_set ?_ GE1196.out) | exact HB.out)) hb); clear HO1199; clear BK1195; clear BK1196; clear HB; have HO1199 := n0_; have HO1203 := n1_; have BK1195 := n2_; have BK1196 := n3_; have HB := n4_; clear n0_ n1_ n2_ n3_ n4_; (try clear hb); (try clear hb2); (try clear hk); (try clear hi); (try clear ho0); obtain ⟨Ao16, co16, eo16⟩ := Kd.V_slice HO1203.out; subst eo16) | ((with_reducible refine gate_callee (f := 48) rfl ?_); refine goesL_ (some 11) rfl rfl Try.func48 (by kernel_rfl) rfl #[.slice Ao14 t1197.length co14, .slice Ao16 t1201.length co16] rfl (by (try simp only [List.map_toArray, List.map_cons, List.map_nil]); first | done | rfl | (simp only [List.length_drop, List.length_take]; rfl)) ?_; (with_reducible refine (number_Add.calls k _ _ t1197 _ _ t1201 t1204 _ ?side1 ?side2 ?side3 ?side4 A6.out).mono ?_); (case side1 => repeat (first | exact (Kd.R_reads' HO1199.out).2.2 | (with_reducible refine Kd.C_alloc ?_ _) | (with_reducible refine Kd.C_drewN ?_ _) | (with_reducible refine Kd.C_drew ?_))); (case side2 => exact (Kd.R_reads' HO1199.out).2.1); (case side3 => repeat (first | exact (Kd.V_reads' HO1203.out).2.2 | (with_reducible refine Kd.C_alloc ?_ _) | (with_reducible refine Kd.C_drewN ?_ _) | (with_reducible refine Kd.C_drew ?_))); (case side4 => exact (Kd.V_reads' HO1203.out).2.1); rintro e w17 ⟨v1205, rfl, ho0, hb⟩; refine ⟨_, rfl, ?_⟩; have n0_ := Aside0.mk (Kd.R_below (by (with_reducible repeat (first | apply Kd.R_alloc | apply Kd.R_drewN | apply Kd.R_drew)); exact HO1199.out) hb); have n1_ := Aside0.mk (Kd.V_below (by (with_reducible repeat (first | apply Kd.V_alloc | apply Kd.V_drewN | apply Kd.V_drew)); exact HO1203.out) hb); have n2_ := Aside0.mk (Kd.V_lower (Kd.V_mono (ok' := fun k_ => some k_ ≠ (.slice Ao14 t1197.length co14 : Value).ownBlock ∧ k_ ≠ gb1195 ∧ k_ ≠ gb1196) ho0 (fun k_ hk_ => ⟨(Kd.fresh' (Kd.R_lt (by (with_reducible repeat (first | apply Kd.R_alloc | apply Kd.R_drewN | apply Kd.R_drew)); exact HO1199.out)) k_ hk_), (Kd.freshB (g := gb1195) (o := .cells (sv a0_0) 73 (0, 0)) (by (with_reducible repeat (first | refine blk_drewN ?_ _ | refine blk_drew ?_ | refine blk_alloc ?_ _)); exact BK1195.out) k_ hk_), (Kd.freshB (g := gb1196) (o := .cells zv 73 (0, 0)) (by (with_reducible repeat (first | refine blk_drewN ?_ _ | refine blk_drew ?_ | refine blk_alloc ?_ _)); exact BK1196.out) k_ hk_)⟩)) (below_size (by repeat (first | (with_reducible first | exact HB.out | apply below_alloc | apply pw_below_drewN | apply below_drew1 | refine below_set ?_ GE1195.out | refine below_set ?_ GE1196.out) | exact HB.out)))); have n3_ := Aside0.mk (blk_below (g := gb1195) (o := .cells (sv a0_0) 73 (0, 0)) (by (with_reducible repeat (first | refine blk_drewN ?_ _ | refine blk_drew ?_ | refine blk_alloc ?_ _)); exact BK1195.out) hb); have n4_ := Aside0.mk (blk_below (g := gb1196) (o := .cells zv 73 (0, 0)) (by (with_reducible repeat (first | refine blk_drewN ?_ _ | refine blk_drew ?_ | refine blk_alloc ?_ _)); exact BK1196.out) hb); have n5_ := Aside0.mk (below_step (by repeat (first | (with_reducible first | exact HB.out | apply below_alloc | apply pw_below_drewN | apply below_drew1 | refine below_set ?_ GE1195.out | refine below_set ?_ GE1196.out) | exact HB.out)) hb); clear HO1199; clear HO1203; clear BK1195; clear BK1196; clear HB; have HO1199 := n0_; have HO1203 := n1_; have HO1206 := n2_; have BK1195 := n3_; have BK1196 := n4_; have HB := n5_; clear n0_ n1_ n2_ n3_ n4_ n5_; (try clear hb); (try clear hb2); (try clear hk); (try clear hi); (try clear ho0); obtain ⟨Ao18, co18, eo18⟩ := Kd.V_slice HO1206.out; subst eo18) | ((with_reducible refine gate_callee (f := 57) rfl ?_); refine goesL_ (some 14) rfl rfl Try.func57 (by kernel_rfl) rfl #[.slice Ao18 t1204.length co18, .int .i64 (-1)] rfl (by (try simp only [List.map_toArray, List.map_cons, List.map_nil]); first | done | rfl | (simp only [List.length_drop, List.length_take]; rfl)) ?_; (with_reducible refine (number_Shift.calls k _ _ t1204 (-1) t1207 t1210 _ ?side1 ?side2 A7.out).mono ?_); (case side1 => repeat (first | exact (Kd.V_reads' HO1206.out).2.2 | (with_reducible refine Kd.C_alloc ?_ _) | (with_reducible refine Kd.C_drewN ?_ _) | (with_reducible refine Kd.C_drew ?_))); (case side2 => exact (Kd.V_reads' HO1206.out).2.1); rintro e w19 ⟨v1208, rfl, ho0, hb⟩; refine ⟨_, rfl, ?_⟩; have n0_ := Aside0.mk (Kd.R_below (by (with_reducible repeat (first | apply Kd.R_alloc | apply Kd.R_drewN | apply Kd.R_drew)); exact HO1199.out) hb); have n1_ := Aside0.mk (Kd.V_below (by (with_reducible repeat (first | apply Kd.V_alloc | apply Kd.V_drewN | apply Kd.V_drew)); exact HO1203.out) hb); have n2_ := Aside0.mk (Kd.V_below (by (with_reducible repeat (first | apply Kd.V_alloc | apply Kd.V_drewN | apply Kd.V_drew)); exact HO1206.out) hb); have n3_ := Aside0.mk (Kd.V_lower (Kd.V_mono (ok' := fun k_ => some k_ ≠ (.slice Ao14 t1197.length co14 : Value).ownBlock ∧ k_ ≠ gb1195 ∧ k_ ≠ gb1196) ho0 (fun k_ hk_ => ⟨(Kd.fresh' (Kd.R_lt (by (with_reducible repeat (first | apply Kd.R_alloc | apply Kd.R_drewN | apply Kd.R_drew)); exact HO1199.out)) k_ hk_), (Kd.freshB (g := gb1195) (o := .cells (sv a0_0) 73 (0, 0)) (by (with_reducible repeat (first | refine blk_drewN ?_ _ | refine blk_drew ?_ | refine blk_alloc ?_ _)); exact BK1195.out) k_ hk_), (Kd.freshB (g := gb1196) (o := .cells zv 73 (0, 0)) (by (with_reducible repeat (first | refine blk_drewN ?_ _ | refine blk_drew ?_ | refine blk_alloc ?_ _)); exact BK1196.out) k_ hk_)⟩)) (below_size (by repeat (first | (with_reducible first | exact HB.out | apply below_alloc | apply pw_below_drewN | apply below_drew1 | refine below_set ?_ GE1195.out | refine below_set ?_ GE1196.out) | exact HB.out)))); have n4_ := Aside0.mk (blk_below (g := gb1195) (o := .cells (sv a0_0) 73 (0, 0)) (by (with_reducible repeat (first | refine blk_drewN ?_ _ | refine blk_drew ?_ | refine blk_alloc ?_ _)); exact BK1195.out) hb); have n5_ := Aside0.mk (blk_below (g := gb1196) (o := .cells zv 73 (0, 0)) (by (with_reducible repeat (first | refine blk_drewN ?_ _ | refine blk_drew ?_ | refine blk_alloc ?_ _)); exact BK1196.out) hb); have n6_ := Aside0.mk (below_step (by repeat (first | (with_reducible first | exact HB.out | apply below_alloc | apply pw_below_drewN | apply below_drew1 | refine below_set ?_ GE1195.out | refine below_set ?_ GE1196.out) | exact HB.out)) hb); clear HO1199; clear HO1203; clear HO1206; clear BK1195; clear BK1196; clear HB; have HO1199 := n0_; have HO1203 := n1_; have HO1206 := n2_; have HO1209 := n3_; have BK1195 := n4_; have BK1196 := n5_; have HB := n6_; clear n0_ n1_ n2_ n3_ n4_ n5_ n6_; (try clear hb); (try clear hb2); (try clear hk); (try clear hi); (try clear ho0); obtain ⟨Ao20, co20, eo20⟩ := Kd.V_slice HO1209.out; subst eo20) | ((with_reducible refine gate_callee (f := 106) rfl ?_); refine goesL_ (some 18) rfl rfl Try.func106 (by kernel_rfl) rfl #[.slice Ao20 t1207.length co20] rfl (by (try simp only [List.map_toArray, List.map_cons, List.map_nil]); first | done | rfl | (simp only [List.length_drop, List.length_take]; rfl)) ?_; (with_reducible refine (scalar_reduce.calls k (fun k_ => (some k_ ≠ (.slice Ao14 t1197.length co14 : Value).ownBlock ∧ (k_ ≠ gb1195 ∧ k_ ≠ gb1196))) _ _ t1207 t1211 _ ?side1 A8.out).mono ?_); (case side1 => exact HO1209.out); rintro e w21 ⟨rfl, hb⟩; refine ⟨_, rfl, ?_⟩; have n0_ := Aside0.mk (Kd.R_below (by (with_reducible repeat (first | apply Kd.R_alloc | apply Kd.R_drewN | apply Kd.R_drew)); exact HO1199.out) hb); have n1_ := Aside0.mk (Kd.V_below (by (with_reducible repeat (first | apply Kd.V_alloc | apply Kd.V_drewN | apply Kd.V_drew)); exact HO1203.out) hb); have n2_ := Aside0.mk (Kd.V_below (by (with_reducible repeat (first | apply Kd.V_alloc | apply Kd.V_drewN | apply Kd.V_drew)); exact HO1206.out) hb); have n3_ := Aside0.mk (Kd.V_below (by (with_reducible repeat (first | apply Kd.V_alloc | apply Kd.V_drewN | apply Kd.V_drew)); exact HO1209.out) hb); have n4_ := Aside0.mk (blk_below (g := gb1195) (o := .cells (sv a0_0) 73 (0, 0)) (by (with_reducible repeat (first | refine blk_drewN ?_ _ | refine blk_drew ?_ | refine blk_alloc ?_ _)); exact BK1195.out) hb); have n5_ := Aside0.mk (blk_below (g := gb1196) (o := .cells zv 73 (0, 0)) (by (with_reducible repeat (first | refine blk_drewN ?_ _ | refine blk_drew ?_ | refine blk_alloc ?_ _)); exact BK1196.out) hb); have n6_ := Aside0.mk (below_step (by repeat (first | (with_reducible first | exact HB.out | apply below_alloc | apply pw_below_drewN | apply below_drew1 | refine below_set ?_ GE1195.out | refine below_set ?_ GE1196.out) | exact HB.out)) hb); clear HO1199; clear HO1203; clear HO1206; clear HO1209; clear BK1195; clear BK1196; clear HB; have HO1199 := n0_; have HO1203 := n1_; have HO1206 := n2_; have HO1209 := n3_; have BK1195 := n4_; have BK1196 := n5_; have HB := n6_; clear n0_ n1_ n2_ n3_ n4_ n5_ n6_; (try clear hb); (try clear hb2); (try clear hk); (try clear hi); obtain ⟨hcz22_0, hcz22_0_c1, hcz22_0_c2, hcz22_0_c3, hcz22_0_c4, hcz22_0_c5, hcz22_0_c6⟩ := c7_of (a := z7) BK1196.out rfl; obtain ⟨hfz22_0, hfz22_0_c1, hfz22_0_c2, hfz22_0_c3, hfz22_0_c4, hfz22_0_c5, hfz22_0_c6⟩ := fz7 BK1196.out))
    refine bodyPost_ret (results_cell_row rfl _ _ gb1196 73 (sv t1211) (0, 0) _ rfl (by (with_reducible repeat (first | refine blk_drewN ?_ _ | refine blk_drew ?_ | refine blk_alloc ?_ _)); refine blk_put7z ?_; (with_reducible repeat (first | refine blk_drewN ?_ _ | refine blk_drew ?_ | refine blk_alloc ?_ _)); exact BK1196.out) Try.underlying73 rfl (by kernel_rfl)) rfl ?_
    exact ⟨by first | rfl | (simp [errW_none, errW_some] <;> rfl) | (simp [*, errW_none, errW_some] <;> rfl), by repeat (first | (with_reducible first | exact HB.out | apply below_alloc | apply pw_below_drewN | apply below_drew1 | refine below_set ?_ GE1195.out | refine below_set ?_ GE1196.out) | exact HB.out)⟩
  · rw [if_neg c4] at H
    have c4b0 : (t1200 == 1) = false := beq_eq_false_iff_ne.mpr c4
    have c4b1 : (t1200 != 1) = true := bne_iff_ne.mpr c4
    replace H := Option.bind_eq_some_iff.mp H
    obtain ⟨⟨t1212, t1215⟩, A230, H⟩ := H
    replace H : ((scalar_reduce.f k t1212).bind fun t1216 => (some t1216)) = some r := H
    have A23 := Aside0.mk A230
    clear A230
    replace H := Option.bind_eq_some_iff.mp H
    obtain ⟨t1216, A240, H⟩ := H
    replace H : (some t1216) = some r := H
    have A24 := Aside0.mk A240
    clear A240
    obtain rfl := Option.some.inj H
    go_enter Try.func74, Try.ntmps74
    go_wp2_with (first | ((with_reducible refine gate_dst (N := 1) rfl ?_); refine box_event ?hg (N := 1) ?hd (cs := (sv a0_0)) (t := 73) ?hr ?_; (case hd => rfl); (case hg => rfl); (case hr => first | (go_simp; done) | (go_simp; rfl)); intro gb1195 hg w25 hbox hb; have n0_ := Aside0.mk (below_step (by repeat (first | (with_reducible first | exact HB.out | apply below_alloc | apply pw_below_drewN | apply below_drew1) | exact HB.out)) hb); have n1_ := Aside0.mk (hbox); have n2_ := Aside0.mk ((by rw [hg]; exact (below_size (by repeat (first | (with_reducible first | exact HB.out | apply below_alloc | apply pw_below_drewN | apply below_drew1) | exact HB.out))) : w.heap.size ≤ gb1195)); have n3_ := Aside0.mk ((by rw [hg]; exact (below_size (by repeat (first | (with_reducible first | exact HB.out | apply below_alloc | apply pw_below_drewN | apply below_drew1) | exact HB.out))) : w.heap.size ≤ gb1195)); clear HB; have HB := n0_; have BK1195 := n1_; have GW1195 := n2_; have GE1195 := n3_; clear n0_ n1_ n2_ n3_; clear hb hbox hg) | ((with_reducible refine gate_dst (N := 2) rfl ?_); refine box_event ?hg (N := 2) ?hd (cs := zv) (t := 73) ?hr ?_; (case hd => rfl); (case hg => rfl); (case hr => first | (go_simp; done) | (go_simp; rfl)); intro gb1196 hg w26 hbox hb; have n0_ := Aside0.mk (blk_below (g := gb1195) (o := .cells (sv a0_0) 73 (0, 0)) (by (with_reducible repeat (first | refine blk_drewN ?_ _ | refine blk_drew ?_ | refine blk_alloc ?_ _)); exact BK1195.out) hb); have n1_ := Aside0.mk (below_step (by repeat (first | (with_reducible first | exact HB.out | apply below_alloc | apply pw_below_drewN | apply below_drew1 | refine below_set ?_ GE1195.out) | exact HB.out)) hb); have n2_ := Aside0.mk (hbox); have n3_ := Aside0.mk ((by rw [hg]; exact (below_size (by repeat (first | (with_reducible first | exact HB.out | apply below_alloc | apply pw_below_drewN | apply below_drew1 | refine below_set ?_ GE1195.out) | exact HB.out))) : w.heap.size ≤ gb1196)); have n4_ := Aside0.mk ((by rw [hg]; exact (below_size (by repeat (first | (with_reducible first | exact HB.out | apply below_alloc | apply pw_below_drewN | apply below_drew1 | refine below_set ?_ GE1195.out) | exact HB.out))) : w.heap.size ≤ gb1196)); have n5_ := Aside0.mk ((by rw [hg]; exact Nat.ne_of_lt (blk_lt (g := gb1195) (o := .cells (sv a0_0) 73 (0, 0)) (by (with_reducible repeat (first | refine blk_drewN ?_ _ | refine blk_drew ?_ | refine blk_alloc ?_ _)); exact BK1195.out)) : gb1195 ≠ gb1196)); have n6_ := Aside0.mk ((by rw [hg]; exact Nat.ne_of_gt (blk_lt (g := gb1195) (o := .cells (sv a0_0) 73 (0, 0)) (by (with_reducible repeat (first | refine blk_drewN ?_ _ | refine blk_drew ?_ | refine blk_alloc ?_ _)); exact BK1195.out)) : gb1196 ≠ gb1195)); clear BK1195; clear HB; have BK1195 := n0_; have HB := n1_; have BK1196 := n2_; have GW1196 := n3_; have GE1196 := n4_; have NB1195_1196 := n5_; have NB1196_1195 := n6_; clear n0_ n1_ n2_ n3_ n4_ n5_ n6_; clear hb hbox hg; have hnb27 := NB1195_1196.out; have hnc27 := NB1196_1195.out; obtain ⟨hcz28_0, hcz28_0_c1, hcz28_0_c2, hcz28_0_c3, hcz28_0_c4, hcz28_0_c5, hcz28_0_c6⟩ := c7_of (a := a0_0) BK1195.out rfl; obtain ⟨hfz28_0, hfz28_0_c1, hfz28_0_c2, hfz28_0_c3, hfz28_0_c4, hfz28_0_c5, hfz28_0_c6⟩ := fz7 BK1195.out) | ((with_reducible refine gate_callee (f := 107) rfl ?_); refine goesL_ (some 5) rfl rfl Try.func107 (by kernel_rfl) rfl #[.agg (sv a0_0)] rfl (by (try simp only [List.map_toArray, List.map_cons, List.map_nil]); first | done | rfl | (simp only [List.length_drop, List.length_take]; rfl)) ?_; (with_reducible refine (scalar_Scalar_nat.calls a0_0 t1197 _ A2.out).mono ?_); rintro e w29 ⟨v1198, rfl, ho0, hb⟩; refine ⟨_, rfl, ?_⟩; have n0_ := Aside0.mk (Kd.R_lower ho0 (below_size (by repeat (first | (with_reducible first | exact HB.out | apply below_alloc | apply pw_below_drewN | apply below_drew1 | refine below_set ?_ GE1195.out | refine below_set ?_ GE1196.out) | exact HB.out)))); have n1_ := Aside0.mk (blk_below (g := gb1195) (o := .cells (sv a0_0) 73 (0, 0)) (by (with_reducible repeat (first | refine blk_drewN ?_ _ | refine blk_drew ?_ | refine blk_alloc ?_ _)); exact BK1195.out) hb); have n2_ := Aside0.mk (blk_below (g := gb1196) (o := .cells zv 73 (0, 0)) (by (with_reducible repeat (first | refine blk_drewN ?_ _ | refine blk_drew ?_ | refine blk_alloc ?_ _)); exact BK1196.out) hb); have n3_ := Aside0.mk (below_step (by repeat (first | (with_reducible first | exact HB.out | apply below_alloc | apply pw_below_drewN | apply below_drew1 | refine below_set ?_ GE1195.out | refine below_set ?_ GE1196.out) | exact HB.out)) hb); clear BK1195; clear BK1196; clear HB; have HO1199 := n0_; have BK1195 := n1_; have BK1196 := n2_; have HB := n3_; clear n0_ n1_ n2_ n3_; (try clear hb); (try clear hb2); (try clear hk); (try clear hi); (try clear ho0); obtain ⟨Ao30, co30, eo30⟩ := Kd.R_slice HO1199.out; subst eo30) | ((with_reducible refine gate_callee (f := 37) rfl ?_); refine goesL_ (some 7) rfl rfl Try.func37 (by kernel_rfl) rfl #[.slice Ao30 t1197.length co30, .int .i64 0] rfl (by (try simp only [List.map_toArray, List.map_cons, List.map_nil]); first | done | rfl | (simp only [List.length_drop, List.length_take]; rfl)) ?_; (with_reducible refine (number_Bit.calls _ _ t1197 0 t1200 _ ?side1 ?side2 A3.out).mono ?_); (case side1 => repeat (first | exact (Kd.R_reads' HO1199.out).2.2 | (with_reducible refine Kd.C_alloc ?_ _) | (with_reducible refine Kd.C_drewN ?_ _) | (with_reducible refine Kd.C_drew ?_))); (case side2 => exact (Kd.R_reads' HO1199.out).2.1); rintro e w' ⟨rfl, ⟨nd, rfl⟩⟩; refine ⟨_, rfl, ?_⟩; (try (rw [drewN_self w29]; generalize hq_ : World.drewN w29 _ = w29; have n0_ : Aside0 (Kd.R (Kd.int .u64) 62 w29 w.heap.size (fun _ => True) (.slice Ao30 t1197.length co30) t1197) := ⟨by rw [← hq_]; exact (by (with_reducible repeat (first | apply Kd.R_alloc | apply Kd.R_drewN | apply Kd.R_drew)); exact HO1199.out)⟩; have n1_ : Aside0 (w29.heap[gb1195]? = some (.cells (sv a0_0) 73 (0, 0))) := ⟨by rw [← hq_]; exact (by (with_reducible repeat (first | refine blk_drewN ?_ _ | refine blk_drew ?_ | refine blk_alloc ?_ _)); exact BK1195.out)⟩; have n2_ : Aside0 (w29.heap[gb1196]? = some (.cells zv 73 (0, 0))) := ⟨by rw [← hq_]; exact (by (with_reducible repeat (first | refine blk_drewN ?_ _ | refine blk_drew ?_ | refine blk_alloc ?_ _)); exact BK1196.out)⟩; have n3_ : Aside0 (Below w.heap.size w w29) := ⟨by rw [← hq_]; exact (by repeat (first | (with_reducible first | exact HB.out | apply below_alloc | apply pw_below_drewN | apply below_drew1 | refine below_set ?_ GE1195.out | refine below_set ?_ GE1196.out) | exact HB.out))⟩; clear HO1199 BK1195 BK1196 HB hq_; have HO1199 := n0_; have BK1195 := n1_; have BK1196 := n2_; have HB := n3_; clear n0_ n1_ n2_ n3_))) | ((with_reducible refine gate_callee (f := 57) rfl ?_); refine goesL_ (some 14) rfl rfl Try.func57 (by kernel_rfl) rfl #[.slice Ao30 t1197.length co30, .int .i64 (-1)] rfl (by (try simp only [List.map_toArray, List.map_cons, List.map_nil]); first | done | rfl | (simp only [List.length_drop, List.length_take]; rfl)) ?_; (with_reducible refine (number_Shift.calls k _ _ t1197 (-1) t1212 t1215 _ ?side1 ?side2 A23.out).mono ?_); (case side1 => repeat (first | exact (Kd.R_reads' HO1199.out).2.2 | (with_reducible refine Kd.C_alloc ?_ _) | (with_reducible refine Kd.C_drewN ?_ _) | (with_reducible refine Kd.C_drew ?_))); (case side2 => exact (Kd.R_reads' HO1199.out).2.1); rintro e w31 ⟨v1213, rfl, ho0, hb⟩; refine ⟨_, rfl, ?_⟩; have n0_ := Aside0.mk (Kd.R_below (by (with_reducible repeat (first | apply Kd.R_alloc | apply Kd.R_drewN | apply Kd.R_drew)); exact HO1199.out) hb); have n1_ := Aside0.mk (Kd.V_lower (Kd.V_mono (ok' := fun k_ => some k_ ≠ (.slice Ao30 t1197.length co30 : Value).ownBlock ∧ k_ ≠ gb1195 ∧ k_ ≠ gb1196) ho0 (fun k_ hk_ => ⟨(Kd.fresh' (Kd.R_lt (by (with_reducible repeat (first | apply Kd.R_alloc | apply Kd.R_drewN | apply Kd.R_drew)); exact HO1199.out)) k_ hk_), (Kd.freshB (g := gb1195) (o := .cells (sv a0_0) 73 (0, 0)) (by (with_reducible repeat (first | refine blk_drewN ?_ _ | refine blk_drew ?_ | refine blk_alloc ?_ _)); exact BK1195.out) k_ hk_), (Kd.freshB (g := gb1196) (o := .cells zv 73 (0, 0)) (by (with_reducible repeat (first | refine blk_drewN ?_ _ | refine blk_drew ?_ | refine blk_alloc ?_ _)); exact BK1196.out) k_ hk_)⟩)) (below_size (by repeat (first | (with_reducible first | exact HB.out | apply below_alloc | apply pw_below_drewN | apply below_drew1 | refine below_set ?_ GE1195.out | refine below_set ?_ GE1196.out) | exact HB.out)))); have n2_ := Aside0.mk (blk_below (g := gb1195) (o := .cells (sv a0_0) 73 (0, 0)) (by (with_reducible repeat (first | refine blk_drewN ?_ _ | refine blk_drew ?_ | refine blk_alloc ?_ _)); exact BK1195.out) hb); have n3_ := Aside0.mk (blk_below (g := gb1196) (o := .cells zv 73 (0, 0)) (by (with_reducible repeat (first | refine blk_drewN ?_ _ | refine blk_drew ?_ | refine blk_alloc ?_ _)); exact BK1196.out) hb); have n4_ := Aside0.mk (below_step (by repeat (first | (with_reducible first | exact HB.out | apply below_alloc | apply pw_below_drewN | apply below_drew1 | refine below_set ?_ GE1195.out | refine below_set ?_ GE1196.out) | exact HB.out)) hb); clear HO1199; clear BK1195; clear BK1196; clear HB; have HO1199 := n0_; have HO1214 := n1_; have BK1195 := n2_; have BK1196 := n3_; have HB := n4_; clear n0_ n1_ n2_ n3_ n4_; (try clear hb); (try clear hb2); (try clear hk); (try clear hi); (try clear ho0); obtain ⟨Ao32, co32, eo32⟩ := Kd.V_slice HO1214.out; subst eo32) | ((with_reducible refine gate_callee (f := 106) rfl ?_); refine goesL_ (some 18) rfl rfl Try.func106 (by kernel_rfl) rfl #[.slice Ao32 t1212.length co32] rfl (by (try simp only [List.map_toArray, List.map_cons, List.map_nil]); first | done | rfl | (simp only [List.length_drop, List.length_take]; rfl)) ?_; (with_reducible refine (scalar_reduce.calls k (fun k_ => (some k_ ≠ (.slice Ao30 t1197.length co30 : Value).ownBlock ∧ (k_ ≠ gb1195 ∧ k_ ≠ gb1196))) _ _ t1212 t1216 _ ?side1 A24.out).mono ?_); (case side1 => exact HO1214.out); rintro e w33 ⟨rfl, hb⟩; refine ⟨_, rfl, ?_⟩; have n0_ := Aside0.mk (Kd.R_below (by (with_reducible repeat (first | apply Kd.R_alloc | apply Kd.R_drewN | apply Kd.R_drew)); exact HO1199.out) hb); have n1_ := Aside0.mk (Kd.V_below (by (with_reducible repeat (first | apply Kd.V_alloc | apply Kd.V_drewN | apply Kd.V_drew)); exact HO1214.out) hb); have n2_ := Aside0.mk (blk_below (g := gb1195) (o := .cells (sv a0_0) 73 (0, 0)) (by (with_reducible repeat (first | refine blk_drewN ?_ _ | refine blk_drew ?_ | refine blk_alloc ?_ _)); exact BK1195.out) hb); have n3_ := Aside0.mk (blk_below (g := gb1196) (o := .cells zv 73 (0, 0)) (by (with_reducible repeat (first | refine blk_drewN ?_ _ | refine blk_drew ?_ | refine blk_alloc ?_ _)); exact BK1196.out) hb); have n4_ := Aside0.mk (below_step (by repeat (first | (with_reducible first | exact HB.out | apply below_alloc | apply pw_below_drewN | apply below_drew1 | refine below_set ?_ GE1195.out | refine below_set ?_ GE1196.out) | exact HB.out)) hb); clear HO1199; clear HO1214; clear BK1195; clear BK1196; clear HB; have HO1199 := n0_; have HO1214 := n1_; have BK1195 := n2_; have BK1196 := n3_; have HB := n4_; clear n0_ n1_ n2_ n3_ n4_; (try clear hb); (try clear hb2); (try clear hk); (try clear hi); obtain ⟨hcz34_0, hcz34_0_c1, hcz34_0_c2, hcz34_0_c3, hcz34_0_c4, hcz34_0_c5, hcz34_0_c6⟩ := c7_of (a := z7) BK1196.out rfl; obtain ⟨hfz34_0, hfz34_0_c1, hfz34_0_c2, hfz34_0_c3, hfz34_0_c4, hfz34_0_c5, hfz34_0_c6⟩ := fz7 BK1196.out))
    refine bodyPost_ret (results_cell_row rfl _ _ gb1196 73 (sv t1216) (0, 0) _ rfl (by (with_reducible repeat (first | refine blk_drewN ?_ _ | refine blk_drew ?_ | refine blk_alloc ?_ _)); refine blk_put7z ?_; (with_reducible repeat (first | refine blk_drewN ?_ _ | refine blk_drew ?_ | refine blk_alloc ?_ _)); exact BK1196.out) Try.underlying73 rfl (by kernel_rfl)) rfl ?_
    exact ⟨by first | rfl | (simp [errW_none, errW_some] <;> rfl) | (simp [*, errW_none, errW_some] <;> rfl), by repeat (first | (with_reducible first | exact HB.out | apply below_alloc | apply pw_below_drewN | apply below_drew1 | refine below_set ?_ GE1195.out | refine below_set ?_ GE1196.out) | exact HB.out)⟩
def scalar_Zero.f (k : Nat) (a0_0 : List Int) : Option (Bool) := (scalar_Scalar_nat.f a0_0).bind fun t1218 => ((number_Len.f k t1218).bind fun t1221 => (some (t1221 == 0)))
theorem scalar_Zero.mono : ∀ a0 k, LeO (scalar_Zero.f k a0) (scalar_Zero.f (k + 1) a0) := by
  intro a0 k
  unfold scalar_Zero.f
  repeat' first
      | (with_reducible exact number_Len.mono _ _)
      | (with_reducible exact LeO.refl _)
      | (with_reducible exact LeO.none _)
      | (with_reducible refine LeO.ite ?_ ?_)
      | (with_reducible refine LeO.bind ?_ (fun _ => ?_))
      | exact number_Len.mono _ _
      | exact LeO.none _
      | refine LeO.ite ?_ ?_
      | refine LeO.bind ?_ (fun _ => ?_)
set_option maxHeartbeats 8000000 in
set_option maxRecDepth 100000 in
theorem scalar_Zero.calls (k : Nat) (a0_0 : List Int) (r : Bool) (w : World) (h : scalar_Zero.f k a0_0 = some r) :
    Calls Try.prog 77 #[.agg (sv a0_0)] w fun e w' => e = .returned (.bool r) ∧ Below w.heap.size w w' := by
  have hu73 := Try.underlying73
  have HB := Aside0.mk (Below.refl w.heap.size w)
  have H : ((scalar_Scalar_nat.f a0_0).bind fun t1218 => ((number_Len.f k t1218).bind fun t1221 => (some (t1221 == 0)))) = some r := h
  clear h
  replace H := Option.bind_eq_some_iff.mp H
  obtain ⟨t1218, A20, H⟩ := H
  replace H : ((number_Len.f k t1218).bind fun t1221 => (some (t1221 == 0))) = some r := H
  have A2 := Aside0.mk A20
  clear A20
  replace H := Option.bind_eq_some_iff.mp H
  obtain ⟨t1221, A30, H⟩ := H
  replace H : (some (t1221 == 0)) = some r := H
  have A3 := Aside0.mk A30
  clear A30
  obtain rfl := Option.some.inj H
  go_enter Try.func77, Try.ntmps77
  go_wp2_with (first | ((with_reducible refine gate_dst (N := 1) rfl ?_); refine box_event ?hg (N := 1) ?hd (cs := (sv a0_0)) (t := 73) ?hr ?_; (case hd => rfl); (case hg => rfl); (case hr => first | (go_simp; done) | (go_simp; rfl)); intro gb1217 hg w4 hbox hb; have n0_ := Aside0.mk (below_step (by repeat (first | (with_reducible first | exact HB.out | apply below_alloc | apply pw_below_drewN | apply below_drew1) | exact HB.out)) hb); have n1_ := Aside0.mk (hbox); have n2_ := Aside0.mk ((by rw [hg]; exact (below_size (by repeat (first | (with_reducible first | exact HB.out | apply below_alloc | apply pw_below_drewN | apply below_drew1) | exact HB.out))) : w.heap.size ≤ gb1217)); have n3_ := Aside0.mk ((by rw [hg]; exact (below_size (by repeat (first | (with_reducible first | exact HB.out | apply below_alloc | apply pw_below_drewN | apply below_drew1) | exact HB.out))) : w.heap.size ≤ gb1217)); clear HB; have HB := n0_; have BK1217 := n1_; have GW1217 := n2_; have GE1217 := n3_; clear n0_ n1_ n2_ n3_; clear hb hbox hg; obtain ⟨hcz5_0, hcz5_0_c1, hcz5_0_c2, hcz5_0_c3, hcz5_0_c4, hcz5_0_c5, hcz5_0_c6⟩ := c7_of (a := a0_0) BK1217.out rfl; obtain ⟨hfz5_0, hfz5_0_c1, hfz5_0_c2, hfz5_0_c3, hfz5_0_c4, hfz5_0_c5, hfz5_0_c6⟩ := fz7 BK1217.out) | ((with_reducible refine gate_callee (f := 107) rfl ?_); refine goesL_ (some 4) rfl rfl Try.func107 (by kernel_rfl) rfl #[.agg (sv a0_0)] rfl (by (try simp only [List.map_toArray, List.map_cons, List.map_nil]); first | done | rfl | (simp only [List.length_drop, List.length_take]; rfl)) ?_; (with_reducible refine (scalar_Scalar_nat.calls a0_0 t1218 _ A2.out).mono ?_); rintro e w6 ⟨v1219, rfl, ho0, hb⟩; refine ⟨_, rfl, ?_⟩; have n0_ := Aside0.mk (Kd.R_lower ho0 (below_size (by repeat (first | (with_reducible first | exact HB.out | apply below_alloc | apply pw_below_drewN | apply below_drew1 | refine below_set ?_ GE1217.out) | exact HB.out)))); have n1_ := Aside0.mk (blk_below (g := gb1217) (o := .cells (sv a0_0) 73 (0, 0)) (by (with_reducible repeat (first | refine blk_drewN ?_ _ | refine blk_drew ?_ | refine blk_alloc ?_ _)); exact BK1217.out) hb); have n2_ := Aside0.mk (below_step (by repeat (first | (with_reducible first | exact HB.out | apply below_alloc | apply pw_below_drewN | apply below_drew1 | refine below_set ?_ GE1217.out) | exact HB.out)) hb); clear BK1217; clear HB; have HO1220 := n0_; have BK1217 := n1_; have HB := n2_; clear n0_ n1_ n2_; (try clear hb); (try clear hb2); (try clear hk); (try clear hi); (try clear ho0); obtain ⟨Ao7, co7, eo7⟩ := Kd.R_slice HO1220.out; subst eo7) | ((with_reducible refine gate_callee (f := 44) rfl ?_); refine goesL_ (some 5) rfl rfl Try.func44 (by kernel_rfl) rfl #[.slice Ao7 t1218.length co7] rfl (by (try simp only [List.map_toArray, List.map_cons, List.map_nil]); first | done | rfl | (simp only [List.length_drop, List.length_take]; rfl)) ?_; (with_reducible refine (number_Len.calls k _ _ t1218 t1221 _ ?side1 ?side2 A3.out).mono ?_); (case side1 => repeat (first | exact (Kd.R_reads' HO1220.out).2.2 | (with_reducible refine Kd.C_alloc ?_ _) | (with_reducible refine Kd.C_drewN ?_ _) | (with_reducible refine Kd.C_drew ?_))); (case side2 => exact (Kd.R_reads' HO1220.out).2.1); rintro e w8 ⟨rfl, hb⟩; refine ⟨_, rfl, ?_⟩; have n0_ := Aside0.mk (Kd.R_below (by (with_reducible repeat (first | apply Kd.R_alloc | apply Kd.R_drewN | apply Kd.R_drew)); exact HO1220.out) hb); have n1_ := Aside0.mk (blk_below (g := gb1217) (o := .cells (sv a0_0) 73 (0, 0)) (by (with_reducible repeat (first | refine blk_drewN ?_ _ | refine blk_drew ?_ | refine blk_alloc ?_ _)); exact BK1217.out) hb); have n2_ := Aside0.mk (below_step (by repeat (first | (with_reducible first | exact HB.out | apply below_alloc | apply pw_below_drewN | apply below_drew1 | refine below_set ?_ GE1217.out) | exact HB.out)) hb); clear HO1220; clear BK1217; clear HB; have HO1220 := n0_; have BK1217 := n1_; have HB := n2_; clear n0_ n1_ n2_; (try clear hb); (try clear hb2); (try clear hk); (try clear hi)))
  go_ret
  exact ⟨by first | rfl | (simp [errW_none, errW_some] <;> rfl) | (simp [*, errW_none, errW_some] <;> rfl), by repeat (first | (with_reducible first | exact HB.out | apply below_alloc | apply pw_below_drewN | apply below_drew1 | refine below_set ?_ GE1217.out) | exact HB.out)⟩
def scalar_Equal.f (k : Nat) (a0_0 : List Int) (a1_0 : List Int) : Option (Bool) := (scalar_Sub.f k a0_0 a1_0).bind fun t1224 => ((scalar_Zero.f k t1224).bind fun t1225 => (some t1225))
theorem scalar_Equal.mono : ∀ a0 a1 k, LeO (scalar_Equal.f k a0 a1) (scalar_Equal.f (k + 1) a0 a1) := by
  intro a0 a1 k
  unfold scalar_Equal.f
  repeat' first
      | (with_reducible exact scalar_Sub.mono _ _ _)
      | (with_reducible exact scalar_Zero.mono _ _)
      | (with_reducible exact LeO.refl _)
      | (with_reducible exact LeO.none _)
      | (with_reducible refine LeO.ite ?_ ?_)
      | (with_reducible refine LeO.bind ?_ (fun _ => ?_))
      | exact scalar_Sub.mono _ _ _
      | exact scalar_Zero.mono _ _
      | exact LeO.none _
      | refine LeO.ite ?_ ?_
      | refine LeO.bind ?_ (fun _ => ?_)
set_option maxHeartbeats 8000000 in
set_option maxRecDepth 100000 in
theorem scalar_Equal.calls (k : Nat) (a0_0 : List Int) (a1_0 : List Int) (r : Bool) (w : World) (h : scalar_Equal.f k a0_0 a1_0 = some r) :
    Calls Try.prog 76 #[.agg (sv a0_0), .agg (sv a1_0)] w fun e w' => e = .returned (.bool r) ∧ Below w.heap.size w w' := by
  have hu73 := Try.underlying73
  have HB := Aside0.mk (Below.refl w.heap.size w)
  have H : ((scalar_Sub.f k a0_0 a1_0).bind fun t1224 => ((scalar_Zero.f k t1224).bind fun t1225 => (some t1225))) = some r := h
  clear h
  replace H := Option.bind_eq_some_iff.mp H
  obtain ⟨t1224, A30, H⟩ := H
  replace H : ((scalar_Zero.f k t1224).bind fun t1225 => (some t1225)) = some r := H
  have A3 := Aside0.mk A30
  clear A30
  replace H := Option.bind_eq_some_iff.mp H
  obtain ⟨t1225, A40, H⟩ := H
  replace H : (some t1225) = some r := H
  have A4 := Aside0.mk A40
  clear A40
  obtain rfl := Option.some.inj H
  go_enter Try.func76, Try.ntmps76
  go_wp2_with (first | ((with_reducible refine gate_dst (N := 2) rfl ?_); refine box_event ?hg (N := 2) ?hd (cs := (sv a0_0)) (t := 73) ?hr ?_; (case hd => rfl); (case hg => rfl); (case hr => first | (go_simp; done) | (go_simp; rfl)); intro gb1222 hg w5 hbox hb; have n0_ := Aside0.mk (below_step (by repeat (first | (with_reducible first | exact HB.out | apply below_alloc | apply pw_below_drewN | apply below_drew1) | exact HB.out)) hb); have n1_ := Aside0.mk (hbox); have n2_ := Aside0.mk ((by rw [hg]; exact (below_size (by repeat (first | (with_reducible first | exact HB.out | apply below_alloc | apply pw_below_drewN | apply below_drew1) | exact HB.out))) : w.heap.size ≤ gb1222)); have n3_ := Aside0.mk ((by rw [hg]; exact (below_size (by repeat (first | (with_reducible first | exact HB.out | apply below_alloc | apply pw_below_drewN | apply below_drew1) | exact HB.out))) : w.heap.size ≤ gb1222)); clear HB; have HB := n0_; have BK1222 := n1_; have GW1222 := n2_; have GE1222 := n3_; clear n0_ n1_ n2_ n3_; clear hb hbox hg) | ((with_reducible refine gate_dst (N := 3) rfl ?_); refine box_event ?hg (N := 3) ?hd (cs := (sv a1_0)) (t := 73) ?hr ?_; (case hd => rfl); (case hg => rfl); (case hr => first | (go_simp; done) | (go_simp; rfl)); intro gb1223 hg w6 hbox hb; have n0_ := Aside0.mk (blk_below (g := gb1222) (o := .cells (sv a0_0) 73 (0, 0)) (by (with_reducible repeat (first | refine blk_drewN ?_ _ | refine blk_drew ?_ | refine blk_alloc ?_ _)); exact BK1222.out) hb); have n1_ := Aside0.mk (below_step (by repeat (first | (with_reducible first | exact HB.out | apply below_alloc | apply pw_below_drewN | apply below_drew1 | refine below_set ?_ GE1222.out) | exact HB.out)) hb); have n2_ := Aside0.mk (hbox); have n3_ := Aside0.mk ((by rw [hg]; exact (below_size (by repeat (first | (with_reducible first | exact HB.out | apply below_alloc | apply pw_below_drewN | apply below_drew1 | refine below_set ?_ GE1222.out) | exact HB.out))) : w.heap.size ≤ gb1223)); have n4_ := Aside0.mk ((by rw [hg]; exact (below_size (by repeat (first | (with_reducible first | exact HB.out | apply below_alloc | apply pw_below_drewN | apply below_drew1 | refine below_set ?_ GE1222.out) | exact HB.out))) : w.heap.size ≤ gb1223)); have n5_ := Aside0.mk ((by rw [hg]; exact Nat.ne_of_lt (blk_lt (g := gb1222) (o := .cells (sv a0_0) 73 (0, 0)) (by (with_reducible repeat (first | refine blk_drewN ?_ _ | refine blk_drew ?_ | refine blk_alloc ?_ _)); exact BK1222.out)) : gb1222 ≠ gb1223)); have n6_ := Aside0.mk ((by rw [hg]; exact Nat.ne_of_gt (blk_lt (g := gb1222) (o := .cells (sv a0_0) 73 (0, 0)) (by (with_reducible repeat (first | refine blk_drewN ?_ _ | refine blk_drew ?_ | refine blk_alloc ?_ _)); exact BK1222.out)) : gb1223 ≠ gb1222)); clear BK1222; clear HB; have BK1222 := n0_; have HB := n1_; have BK1223 := n2_; have GW1223 := n3_; have GE1223 := n4_; have NB1222_1223 := n5_; have NB1223_1222 := n6_; clear n0_ n1_ n2_ n3_ n4_ n5_ n6_; clear hb hbox hg; have hnb7 := NB1222_1223.out; have hnc7 := NB1223_1222.out; obtain ⟨hcz8_0, hcz8_0_c1, hcz8_0_c2, hcz8_0_c3, hcz8_0_c4, hcz8_0_c5, hcz8_0_c6⟩ := c7_of (a := a0_0) BK1222.out rfl; obtain ⟨hfz8_0, hfz8_0_c1, hfz8_0_c2, hfz8_0_c3, hfz8_0_c4, hfz8_0_c5, hfz8_0_c6⟩ := fz7 BK1222.out; obtain ⟨hcz9_0, hcz9_0_c1, hcz9_0_c2, hcz9_0_c3, hcz9_0_c4, hcz9_0_c5, hcz9_0_c6⟩ := c7_of (a := a1_0) BK1223.out rfl; obtain ⟨hfz9_0, hfz9_0_c1, hfz9_0_c2, hfz9_0_c3, hfz9_0_c4, hfz9_0_c5, hfz9_0_c6⟩ := fz7 BK1223.out) | ((with_reducible refine gate_callee (f := 66) rfl ?_); refine goesL_ (some 7) rfl rfl Try.func66 (by kernel_rfl) rfl #[.agg (sv a0_0), .agg (sv a1_0)] rfl (by (try simp only [List.map_toArray, List.map_cons, List.map_nil]); first | done | rfl | (simp only [List.length_drop, List.length_take]; rfl)) ?_; (with_reducible refine (scalar_Sub.calls k a0_0 a1_0 t1224 _ A3.out).mono ?_); rintro e w10 ⟨rfl, hb⟩; refine ⟨_, rfl, ?_⟩; have n0_ := Aside0.mk (blk_below (g := gb1222) (o := .cells (sv a0_0) 73 (0, 0)) (by (with_reducible repeat (first | refine blk_drewN ?_ _ | refine blk_drew ?_ | refine blk_alloc ?_ _)); exact BK1222.out) hb); have n1_ := Aside0.mk (blk_below (g := gb1223) (o := .cells (sv a1_0) 73 (0, 0)) (by (with_reducible repeat (first | refine blk_drewN ?_ _ | refine blk_drew ?_ | refine blk_alloc ?_ _)); exact BK1223.out) hb); have n2_ := Aside0.mk (below_step (by repeat (first | (with_reducible first | exact HB.out | apply below_alloc | apply pw_below_drewN | apply below_drew1 | refine below_set ?_ GE1222.out | refine below_set ?_ GE1223.out) | exact HB.out)) hb); clear BK1222; clear BK1223; clear HB; have BK1222 := n0_; have BK1223 := n1_; have HB := n2_; clear n0_ n1_ n2_; (try clear hb); (try clear hb2); (try clear hk); (try clear hi)) | ((with_reducible refine gate_callee (f := 77) rfl ?_); refine goesL_ (some 8) rfl rfl Try.func77 (by kernel_rfl) rfl #[.agg (sv t1224)] rfl (by (try simp only [List.map_toArray, List.map_cons, List.map_nil]); first | done | rfl | (simp only [List.length_drop, List.length_take]; rfl)) ?_; (with_reducible refine (scalar_Zero.calls k t1224 t1225 _ A4.out).mono ?_); rintro e w11 ⟨rfl, hb⟩; refine ⟨_, rfl, ?_⟩; have n0_ := Aside0.mk (blk_below (g := gb1222) (o := .cells (sv a0_0) 73 (0, 0)) (by (with_reducible repeat (first | refine blk_drewN ?_ _ | refine blk_drew ?_ | refine blk_alloc ?_ _)); exact BK1222.out) hb); have n1_ := Aside0.mk (blk_below (g := gb1223) (o := .cells (sv a1_0) 73 (0, 0)) (by (with_reducible repeat (first | refine blk_drewN ?_ _ | refine blk_drew ?_ | refine blk_alloc ?_ _)); exact BK1223.out) hb); have n2_ := Aside0.mk (below_step (by repeat (first | (with_reducible first | exact HB.out | apply below_alloc | apply pw_below_drewN | apply below_drew1 | refine below_set ?_ GE1222.out | refine below_set ?_ GE1223.out) | exact HB.out)) hb); clear BK1222; clear BK1223; clear HB; have BK1222 := n0_; have BK1223 := n1_; have HB := n2_; clear n0_ n1_ n2_; (try clear hb); (try clear hb2); (try clear hk); (try clear hi)))
  go_ret
  exact ⟨by first | rfl | (simp [errW_none, errW_some] <;> rfl) | (simp [*, errW_none, errW_some] <;> rfl), by repeat (first | (with_reducible first | exact HB.out | apply below_alloc | apply pw_below_drewN | apply below_drew1 | refine below_set ?_ GE1222.out | refine below_set ?_ GE1223.out) | exact HB.out)⟩
end Go.Proofs.Ytdaehflffecllaa.N
