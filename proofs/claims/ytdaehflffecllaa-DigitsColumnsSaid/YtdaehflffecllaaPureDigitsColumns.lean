/- The law DigitsColumns, as a statement of numbers and lists: true at every input. -/
import Derived.Test.YtdaehflffecllaaNlDigitsColumns
import Derived.Test.YtdaehflffecllaaNx1
import Derived.Test.YtdaehflffecllaaD2
import Derived.Test.YtdaehflffecllaaA1
import Derived.Test.YtdaehflffecllaaO1
namespace Go.Proofs.Ytdaehflffecllaa.Pure
open Go.RowKit Go.Proofs.Ytdaehflffecllaa.N Go.Proofs.YtdaehflffecllaaW.PrintWords Go.Proofs.Ytdaehflffecllaa.T Go.Proofs.Ytdaehflffecllaa.A

theorem win_head (N : Int) (f s : Nat) : ∀ m, win N f s (m + 1) = bitv N (f : Int) + 2 * win N (f + s) s m
  | 0 => by simp [win]
  | m + 1 => by
    have h := win_head N f s m
    have e1 : win N f s (m + 1 + 1) = win N f s (m + 1) + 2 ^ (m + 1) * bitv N ((f + (m + 1) * s : Nat) : Int) := rfl
    have e2 : win N (f + s) s (m + 1) = win N (f + s) s m + 2 ^ m * bitv N ((f + s + m * s : Nat) : Int) := rfl
    have e3 : f + (m + 1) * s = f + s + m * s := by rw [Nat.succ_mul]; omega
    rw [e1, e2, h, e3, Int.pow_succ]
    generalize bitv N ((f + s + m * s : Nat) : Int) = y
    grind
theorem cnt_mul (n b : Nat) (hb : 1 ≤ b) : 8 * n ≤ cnt n b * b ∧ cnt n b * b < 8 * n + b := by
  unfold cnt
  have h1 := Nat.div_mul_le_self (8 * n + b - 1) b
  have h2 := Nat.lt_succ_self ((8 * n + b - 1) / b)
  have h3 := (Nat.div_lt_iff_lt_mul (k := b) (x := 8 * n + b - 1) (y := (8 * n + b - 1) / b + 1) (by omega)).1 h2
  have h4 : ((8 * n + b - 1) / b + 1) * b = (8 * n + b - 1) / b * b + b := Nat.succ_mul _ _
  omega

theorem col_inner (N : Int) (hN : 0 ≤ N) (cs : List Int) (n t i : Nat) (hcs : cs.length = n) (hn : n ≤ 512) (ht : t ≤ 8) (hi : i < n) (r : Evn (fun k => chicorylaw07_DigitsColumns.l0 k (t : Int) cs (dgs 18446744073709551616 N) ((i + 1 : Nat) : Int)) true) :
    ∀ (d j : Nat), j + d = t → Evn (fun k => chicorylaw07_DigitsColumns.l1 k (t : Int) cs (dgs 18446744073709551616 N) (i : Int) (win N (i + j * n) n d) (j : Int)) true := by
  intro d
  induction d with
  | zero =>
    intro j hj
    refine Evn.succ (fun k => ?_) r
    rw [chicorylaw07_DigitsColumns.l1, if_neg (by omega), show win N (i + j * n) n 0 = 0 from rfl, if_pos rfl, w64 ((i : Int) + 1) (by omega) (by omega)]; rfl
  | succ d ih =>
    intro j hj
    have hb := bitv_bd N ((i + j * n : Nat) : Int)
    have hh := win_head N (i + j * n) n d
    have hw := win_bd N (i + j * n + n) n d
    have hp : (2 : Int) ^ d ≤ 2 ^ 8 := pow_le (by omega) (by omega)
    rw [show (2 : Int) ^ 8 = 256 from rfl] at hp
    have hm : j * n ≤ 8 * 512 := Nat.mul_le_mul (by omega) hn
    have hmi : (j : Int) * (n : Int) = ((j * n : Nat) : Int) := (Int.natCast_mul j n).symm
    have t2 : Int.tmod (win N (i + j * n) n (d + 1)) 2 = bitv N ((i + j * n : Nat) : Int) := by rw [Int.tmod_eq_emod_of_nonneg (by omega)]; omega
    have t1 : Int.tdiv (win N (i + j * n) n (d + 1)) 2 = win N (i + j * n + n) n d := by rw [Int.tdiv_eq_ediv_of_nonneg (by omega)]; omega
    have b0 : number_Bit.f (dgs 18446744073709551616 N) ((i + j * n : Nat) : Int) = some (bitv N ((i + j * n : Nat) : Int)) := by
      have := bit_ev (dgs 18446744073709551616 N) (dgs_dg B2 N hN) ((i + j * n : Nat) : Int) (by omega)
      rwa [vl_dgs B2 N hN] at this
    refine Evn.succ (fun k => ?_) (ih (j + 1) (by omega))
    rw [chicorylaw07_DigitsColumns.l1, if_pos (by omega), hcs, hmi, w64 ((j * n : Nat) : Int) (by omega) (by omega), show ((j * n : Nat) : Int) + (i : Int) = ((i + j * n : Nat) : Int) by omega, w64 ((i + j * n : Nat) : Int) (by omega) (by omega), b0, bsome', t2, if_pos rfl, t1, w64 _ (by omega) (by omega), w64 ((j : Int) + 1) (by omega) (by omega), show i + j * n + n = i + (j + 1) * n by rw [Nat.succ_mul]; omega]
    rfl
theorem col_outer (N : Int) (hN : 0 ≤ N) (n t : Nat) (hn : n ≤ 512) (ht : t ≤ 8) : ∀ (d i : Nat), i + d = n →
    Evn (fun k => chicorylaw07_DigitsColumns.l0 k (t : Int) (colL N t n) (dgs 18446744073709551616 N) (i : Int)) true := by
  have hlen : (colL N t n).length = n := rowL_len _ _
  intro d
  induction d with
  | zero =>
    intro i hi
    exact Evn.succ (fun k => by rw [chicorylaw07_DigitsColumns.l0, if_neg (by omega)]) awake7_some
  | succ d ih =>
    intro i hi
    have hr : rd (colL N t n) (i : Int) = win N i n t := rowL_rd _ _ _ (by omega)
    have hw := win_bd N i n t
    have := col_inner N hN (colL N t n) n t i hlen hn ht (by omega) (ih (i + 1) (by omega)) t 0 (by omega)
    rw [show i + 0 * n = i by omega] at this
    refine Evn.succ (fun k => ?_) this
    rw [chicorylaw07_DigitsColumns.l0, if_pos (by omega), if_pos (by omega), hr, if_neg (by omega)]; rfl

theorem DigitsColumns : chicorylaw07_DigitsColumns.Pure := by
  intro l0 a1 _ _ hw0 _
  have d0 := db_of hw0
  refine Evn.get (?_ : Evn (fun k => chicorylaw07_DigitsColumns.f k l0 a1) true)
  have hA : Evn (fun k => chicorylaw07_DigitsColumns.j0 k l0 a1 true) true := Evn.succ (fun k => by rw [chicorylaw07_DigitsColumns.j0, if_pos rfl]) awake7_some
  by_cases h0 : l0.length ≤ 64
  · by_cases h1 : 1 ≤ a1 ∧ a1 ≤ 8
    · obtain ⟨t, rfl⟩ : ∃ t : Nat, a1 = (t : Int) := ⟨a1.toNat, by omega⟩
      have n0 := vl_nonneg d0 C0
      have hc := cnt_le l0.length t (by omega) h0
      have hm := cnt_mul l0.length t (by omega)
      have hlen : (colL (vl 256 l0) t (cnt l0.length t)).length = cnt l0.length t := rowL_len _ _
      have hmi : ((cnt l0.length t : Nat) : Int) * (t : Int) = ((cnt l0.length t * t : Nat) : Int) := (Int.natCast_mul _ _).symm
      have hJ : Evn (fun k => chicorylaw07_DigitsColumns.j0 k l0 (t : Int) false) true := by
        refine Evn.succ (fun k => by rw [chicorylaw07_DigitsColumns.j0, if_neg (by decide)]) (Evn.bind (cols_ev l0 d0 h0 t (by omega) (by omega)) (Evn.bind (of_ev l0 d0 (by omega)) ?_))
        refine Evn.congr (h := fun k => chicorylaw07_DigitsColumns.j1 k (t : Int) (colL (vl 256 l0) t (cnt l0.length t)) (dgs 18446744073709551616 (vl 256 l0)) false) (fun k => ?_) (Evn.succ (fun k => by rw [chicorylaw07_DigitsColumns.j1, if_neg (by decide)]; rfl) (col_outer (vl 256 l0) n0 (cnt l0.length t) t hc (by omega) (cnt l0.length t) 0 (by omega)))
        show (if (0 : Int) = 0 then _ else _) = _
        rw [if_pos rfl]
        show (if (wrap64 (((colL (vl 256 l0) t (cnt l0.length t)).length : Int) * (t : Int))) < _ then _ else _) = _
        rw [hlen, hmi, w64 ((cnt l0.length t * t : Nat) : Int) (by omega) (by omega), w64 (8 * (l0.length : Int)) (by omega) (by omega), if_neg (by omega), w64 (8 * (l0.length : Int) + (t : Int)) (by omega) (by omega), decide_eq_false (by omega)]
      refine Evn.congr (fun k => ?_) hJ
      unfold chicorylaw07_DigitsColumns.f
      rw [if_neg (by omega), if_neg (by omega), decide_eq_false (by omega)]
    · refine Evn.congr (fun k => ?_) hA
      unfold chicorylaw07_DigitsColumns.f
      rw [if_neg (by omega)]
      by_cases h2 : a1 < 1
      · rw [if_pos h2]
      · rw [if_neg h2, decide_eq_true (by omega)]
  · refine Evn.congr (fun k => ?_) hA
    unfold chicorylaw07_DigitsColumns.f
    rw [if_pos (by omega)]
end Go.Proofs.Ytdaehflffecllaa.Pure
