/- The law NumberBytes, as a statement of numbers and lists: true at every input. -/
import Derived.Test.YtdaehflffecllaaNlNumberBytes
import Derived.Test.YtdaehflffecllaaA5
import Derived.Test.YtdaehflffecllaaA8
namespace Go.Proofs.Ytdaehflffecllaa.Pure
open Go.RowKit Go.Proofs.Ytdaehflffecllaa.N Go.Proofs.YtdaehflffecllaaW.PrintWords Go.Proofs.Ytdaehflffecllaa.T Go.Proofs.Ytdaehflffecllaa.A

theorem bd_of {l : List Int} (h : ∀ x ∈ l, (Lit.int .u8 x).wf = true) : dg 256 l := fun x hx => by
  have := h x hx
  simp [Lit.wf, IntKind.min, IntKind.max, IntKind.signed, IntKind.bits] at this
  omega
theorem vl_snoc_zero (B : Int) (l : List Int) : vl B (l ++ [0]) = vl B l := by rw [vl_append, vl_one]; simp

theorem pad_loop (n : Nat) (hn : n ≤ 65536) (c : List Int) (hc : dg 256 c) (hcl : c.length = n) : ∀ (d : Nat) (w : List Int), w.length + d = n → dg 256 w → vl 256 w = vl 256 c →
    Evn (fun k => chicorylaw03_NumberBytes.l0 k (n : Int) c 0 w) true := by
  intro d
  induction d with
  | zero =>
    intro w hw hd hv
    have hwc : c = w := dg_inj C0 c w hc hd (by omega) hv.symm
    subst hwc
    have e := beq_ev c c (by omega)
    rw [decide_eq_true rfl] at e
    refine Evn.succ (fun k => by rw [chicorylaw03_NumberBytes.l0, if_neg (by omega)]) (Evn.bind e ?_)
    exact Evn.congr (fun k => by rw [if_pos rfl, if_pos rfl]) awake_some
  | succ d ih =>
    intro w hw hd hv
    refine Evn.succ (fun k => ?_) (ih (w ++ [0]) (by simp; omega) (dg_append hd (dg_one (by omega) (by omega))) (by rw [vl_snoc_zero, hv]))
    rw [chicorylaw03_NumberBytes.l0, if_pos (by omega), if_pos (by omega)]

theorem NumberBytes : chicorylaw03_NumberBytes.Pure := by
  intro l0 l1 a2 _ _ hw0 _ _ hw1 hw2
  have d0 := bd_of hw0
  have d1 := wd_of hw1
  have r2 := i64_of hw2
  refine Evn.get (?_ : Evn (fun k => chicorylaw03_NumberBytes.f k l0 l1 a2) true)
  have hA : Evn (fun k => chicorylaw03_NumberBytes.j0 k l0 l1 a2 true) true := Evn.succ (fun k => by rw [chicorylaw03_NumberBytes.j0, if_pos rfl]) awake_some
  by_cases h0 : l0.length ≤ 200
  · by_cases h1 : l1.length ≤ 20
    · have m0 := vl_nonneg d0 C0
      have m1 := vl_nonneg d1 B0
      have hJ : Evn (fun k => chicorylaw03_NumberBytes.j0 k l0 l1 a2 false) true := by
        have lt0 := vl_lt d0 C0
        have lw : (dgs 18446744073709551616 (vl 256 l0)).length ≤ 200 := ws_len _ m0 200 (by
          have p1 := pow_le C0 (show l0.length ≤ 200 by omega)
          have p2 : (256 : Int) ^ 200 ≤ 18446744073709551616 ^ 200 := by
            rw [show (18446744073709551616 : Int) = 256 ^ 8 from rfl, ← Int.pow_mul]
            exact pow_le C0 (by omega)
          omega)
        have dw := dgs_dg B2 _ m0
        have vw := vl_dgs B2 _ m0
        obtain ⟨o, o1, o2, o3, o4⟩ := nbytes_ev (dgs 18446744073709551616 (vl 256 l0)) dw (by omega) l0.length (by omega) (by rw [vw]; exact lt0)
        rw [vw] at o3
        have ho : o = l0 := dg_inj C0 o l0 o2 d0 (by omega) o3
        subst ho
        have e1 := is_ev (vl 256 o) m0 o d0 (by omega) (by omega) rfl
        have e2 := beq_ev o o (by omega)
        rw [decide_eq_true rfl] at e2
        refine Evn.succ (fun k => by rw [chicorylaw03_NumberBytes.j0, if_neg (by decide)]) (Evn.bind (of_ev o d0 (by omega)) (Evn.bind o4 (Evn.bind e1 ?_)))
        refine Evn.congr (fun k => by rw [if_pos rfl]) (Evn.bind e2 ?_)
        refine Evn.congr (h := fun k => chicorylaw03_NumberBytes.j1 k l1 a2 false) (fun k => by rw [if_pos rfl]; rfl) ?_
        have hT : (a2 < 0 ∨ 65536 < a2) → Evn (fun k => chicorylaw03_NumberBytes.j2 k l1 a2 [] 10 true) true := fun _ => by
          refine Evn.succ (fun k => by rw [chicorylaw03_NumberBytes.j2, if_pos rfl, if_pos (by simp), if_pos rfl]) awake_some
        by_cases hr : a2 < 0 ∨ 65536 < a2
        · refine Evn.succ (fun k => by rw [chicorylaw03_NumberBytes.j1, if_neg (by decide)]) (Evn.bind (nbytes_range l1 a2 hr) ?_)
          refine Evn.congr (fun k => ?_) (hT hr)
          by_cases hn : a2 < 0
          · rw [if_pos hn]
          · rw [if_neg hn, decide_eq_true (by omega)]
        · obtain ⟨n, rfl⟩ : ∃ n : Nat, a2 = (n : Int) := ⟨a2.toNat, by omega⟩
          have hn : n ≤ 65536 := by omega
          by_cases hlt : vl 18446744073709551616 l1 < 256 ^ n
          · obtain ⟨c, c1, c2, c3, c4⟩ := nbytes_ev l1 d1 (by omega) n hn hlt
            refine Evn.succ (fun k => by rw [chicorylaw03_NumberBytes.j1, if_neg (by decide)]) (Evn.bind c4 ?_)
            refine Evn.congr (h := fun k => chicorylaw03_NumberBytes.j2 k l1 (n : Int) c 0 false) (fun k => by rw [if_neg (by omega), decide_eq_false (by omega)]) ?_
            have hlen : (dgs 256 (vl 18446744073709551616 l1)).length ≤ n := dgs_len_le C2 _ m1 n hlt
            refine Evn.succ (fun k => by rw [chicorylaw03_NumberBytes.j2, if_neg (by decide)]) (Evn.bind (bytes_ev l1 d1 (by omega)) ?_)
            refine Evn.congr (fun k => by rw [if_neg (by omega)]) (pad_loop n hn c c2 c1 (n - (dgs 256 (vl 18446744073709551616 l1)).length) (dgs 256 (vl 18446744073709551616 l1)) (by omega) (sb_dg d1) (by rw [sb_vl d1, c3]))
          · refine Evn.succ (fun k => by rw [chicorylaw03_NumberBytes.j1, if_neg (by decide)]) (Evn.bind (nbytes_size l1 d1 (by omega) n hn (by omega)) ?_)
            refine Evn.congr (h := fun k => chicorylaw03_NumberBytes.j2 k l1 (n : Int) [] 11 false) (fun k => by rw [if_neg (by omega), decide_eq_false (by omega)]) ?_
            have hlen : n < (dgs 256 (vl 18446744073709551616 l1)).length := dgs_len_lt C2 _ m1 n (by omega)
            refine Evn.succ (fun k => by rw [chicorylaw03_NumberBytes.j2, if_neg (by decide)]) (Evn.bind (bytes_ev l1 d1 (by omega)) ?_)
            exact Evn.congr (fun k => by rw [if_pos (by omega), if_pos (by simp), if_pos rfl]) awake_some
      by_cases hs : 300 < a2 ∧ a2 ≤ 65536
      · refine Evn.congr (fun k => ?_) hA
        unfold chicorylaw03_NumberBytes.f
        rw [if_neg (by omega), few_ev, decide_eq_true h1, bsome, if_pos rfl, if_pos (by omega), decide_eq_true (by omega)]
      · refine Evn.congr (fun k => ?_) hJ
        unfold chicorylaw03_NumberBytes.f
        rw [if_neg (by omega), few_ev, decide_eq_true h1, bsome, if_pos rfl]
        by_cases hb : 300 < a2
        · rw [if_pos hb, decide_eq_false (by omega)]
        · rw [if_neg hb]
    · refine Evn.congr (fun k => ?_) hA
      unfold chicorylaw03_NumberBytes.f
      rw [if_neg (by omega), few_ev, decide_eq_false h1, bsome, if_neg (by decide)]
  · refine Evn.congr (fun k => ?_) hA
    unfold chicorylaw03_NumberBytes.f
    rw [if_pos (by omega)]
end Go.Proofs.Ytdaehflffecllaa.Pure
