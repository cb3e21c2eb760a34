/- The law DigitsBytes, as a statement of numbers and lists: true at every input. -/
import Derived.Test.YtdaehflffecllaaNlDigitsBytes
import Derived.Test.YtdaehflffecllaaD2
namespace Go.Proofs.Ytdaehflffecllaa.Pure
open Go.RowKit Go.Proofs.Ytdaehflffecllaa.N Go.Proofs.YtdaehflffecllaaW.PrintWords Go.Proofs.Ytdaehflffecllaa.T Go.Proofs.Ytdaehflffecllaa.A

theorem cnt8 (n : Nat) : cnt n 8 = n := by unfold cnt; omega
theorem cnt4 (n : Nat) : cnt n 4 = 2 * n := by unfold cnt; omega
theorem cnt1 (n : Nat) : cnt n 1 = 8 * n := by unfold cnt; omega
theorem plain8 (l : List Int) (h : dg 256 l) : plainL (vl 256 l) 8 l.length = l := by
  refine rowL_ext l _ _ rfl fun i hi => ?_
  rw [win_one, rd_vl h C0, show (2 : Int) ^ (i * 8) = 256 ^ i by rw [Nat.mul_comm, Int.pow_mul]; rfl]; rfl
theorem plain4_rd (l : List Int) (h : dg 256 l) (i : Nat) (hi : i < l.length) :
    rd (plainL (vl 256 l) 4 (2 * l.length)) ((2 * i : Nat) : Int) = rd l (i : Int) % 16 ∧ rd (plainL (vl 256 l) 4 (2 * l.length)) ((2 * i + 1 : Nat) : Int) = rd l (i : Int) / 16 := by
  have hr := rd_bd h C0 i
  have e1 := Int.emod_add_mul_ediv (vl 256 l / 256 ^ i) 256
  unfold plainL
  rw [rowL_rd _ _ _ (by omega), rowL_rd _ _ _ (by omega), win_one, win_one, rd_vl h C0]
  have p1 : (2 : Int) ^ (2 * i * 4) = 256 ^ i := by rw [show 2 * i * 4 = 8 * i by omega, Int.pow_mul]; rfl
  have p2 : (2 : Int) ^ ((2 * i + 1) * 4) = 256 ^ i * 16 := by rw [show (2 * i + 1) * 4 = 8 * i + 4 by omega, Int.pow_add, Int.pow_mul]; rfl
  rw [p1, p2, ← Int.ediv_ediv_of_nonneg (Int.le_of_lt (pow_pos C0 i)), show (2 : Int) ^ 4 = 16 from rfl]
  generalize vl 256 l / 256 ^ i = x
  omega
theorem plain1_cols (N : Int) (n : Nat) : plainL N 1 n = colL N 1 n := by
  unfold plainL colL
  congr 1
  funext i
  simp [win]

theorem bytes_loop7 (l : List Int) (h : dg 256 l) (hl : l.length ≤ 64) : ∀ (d i : Nat), i + d = l.length →
    Evn (fun k => chicorylaw07_DigitsBytes.l0 k l l (plainL (vl 256 l) 4 (2 * l.length)) (i : Int)) true := by
  intro d
  induction d with
  | zero =>
    intro i hi
    exact Evn.succ (fun k => by rw [chicorylaw07_DigitsBytes.l0, if_neg (by omega)]) awake7_some
  | succ d ih =>
    intro i hi
    have hr := rd_bd h C0 i
    obtain ⟨a1, a2⟩ := plain4_rd l h i (by omega)
    have hlen : (plainL (vl 256 l) 4 (2 * l.length)).length = 2 * l.length := rowL_len _ _
    refine Evn.succ (fun k => ?_) (ih (i + 1) (by omega))
    rw [chicorylaw07_DigitsBytes.l0, if_pos (by omega), if_pos (by omega), if_pos (by omega), w64 (rd l (i : Int)) (by omega) (by omega), if_pos rfl, w64 (2 * (i : Int)) (by omega) (by omega), w64 (2 * (i : Int) + 1) (by omega) (by omega), show 2 * (i : Int) = ((2 * i : Nat) : Int) by omega, show ((2 * i : Nat) : Int) + 1 = ((2 * i + 1 : Nat) : Int) by omega, a1, a2, if_pos (by omega), if_pos (by omega), if_pos (by omega), if_pos (by omega), w64 (16 * (rd l (i : Int) / 16)) (by omega) (by omega), w64 _ (by omega) (by omega), if_pos (by omega), w64 ((i : Int) + 1) (by omega) (by omega)]
    rfl

theorem DigitsBytes : chicorylaw07_DigitsBytes.Pure := by
  intro l0 _ _ hw0
  have d0 := db_of hw0
  refine Evn.get (?_ : Evn (fun k => chicorylaw07_DigitsBytes.f k l0) true)
  by_cases h0 : l0.length ≤ 64
  · have e1 := plain_ev l0 d0 h0 8 (by omega) (by omega)
    have e2 := plain_ev l0 d0 h0 4 (by omega) (by omega)
    have e3 := plain_ev l0 d0 h0 1 (by omega) (by omega)
    have e4 := cols_ev l0 d0 h0 1 (by omega) (by omega)
    rw [cnt8, plain8 l0 d0, show ((8 : Nat) : Int) = 8 from rfl] at e1
    rw [cnt4, show ((4 : Nat) : Int) = 4 from rfl] at e2
    rw [cnt1, show ((1 : Nat) : Int) = 1 from rfl] at e3 e4
    rw [← plain1_cols] at e4
    have hlen : (plainL (vl 256 l0) 4 (2 * l0.length)).length = 2 * l0.length := rowL_len _ _
    have hlen1 : (plainL (vl 256 l0) 1 (8 * l0.length)).length = 8 * l0.length := rowL_len _ _
    refine Evn.congr (fun k => by unfold chicorylaw07_DigitsBytes.f; rw [if_neg (by omega)]) (Evn.bind e1 (Evn.bind e2 (Evn.bind e3 (Evn.bind e4 ?_))))
    refine Evn.congr (fun k => by rw [if_pos rfl, if_pos rfl, if_pos rfl, if_pos rfl, if_pos rfl, if_pos (by rw [w64 (2 * (l0.length : Int)) (by omega) (by omega)]; show ((plainL (vl 256 l0) 4 (2 * l0.length)).length : Int) = _; omega)]) (Evn.bind (ints_same (plainL (vl 256 l0) 1 (8 * l0.length)) (by omega)) ?_)
    exact Evn.succ (fun k => by rw [chicorylaw07_DigitsBytes.j0, if_neg (by decide)]; rfl) (bytes_loop7 l0 d0 h0 l0.length 0 (by omega))
  · exact Evn.congr (fun k => by unfold chicorylaw07_DigitsBytes.f; rw [if_pos (by omega)]) awake7_some
end Go.Proofs.Ytdaehflffecllaa.Pure
