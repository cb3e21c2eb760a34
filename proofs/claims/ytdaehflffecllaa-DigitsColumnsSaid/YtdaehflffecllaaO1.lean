/- What number.Of comes to. -/
import Derived.Test.YtdaehflffecllaaNx12
import Derived.Test.YtdaehflffecllaaA1
import Derived.Test.YtdaehflffecllaaB0
namespace Go.Proofs.Ytdaehflffecllaa.A
open Go.RowKit Go.Proofs.YtdaehflffecllaaW.PrintWords Go.Proofs.Ytdaehflffecllaa.N Go.Proofs.Ytdaehflffecllaa.T

theorem of_loop (l : List Int) (h : dg 256 l) (hl : l.length ≤ 1073741824) : ∀ (d i : Nat) (out : List Int), i + d = l.length → 8 * out.length < l.length + 8 → l.length ≤ 8 * out.length → dg 18446744073709551616 out → vl 18446744073709551616 out = vl 256 (l.take i) →
    Evn (fun k => number_Of.l0 k out l l.length i) (dgs 18446744073709551616 (vl 256 l)) := by
  intro d
  induction d with
  | zero =>
    intro i out hi _ _ hd hv
    obtain rfl : i = l.length := by omega
    rw [List.take_length] at hv
    refine Evn.succ (h := fun _ => some (cutL out)) (fun k => by rw [number_Of.l0, if_neg (by omega)]; rfl) (Evn.of fun _ => ?_)
    rw [cut_eq B2 hd hv]
  | succ d ih =>
    intro i out hi ho1 ho2 hd hv
    have hr := rd_bd h C0 i
    have ht := vl_take_bd h C0 i
    have hw : i / 8 < out.length := by omega
    have hro := rd_bd hd B0 (i / 8)
    have t1 := tdiv_nat i 8
    have t2 := tmod_nat i 8
    rw [show ((8 : Nat) : Int) = 8 from rfl] at t1 t2
    have hs8 : (256 : Int) ^ (i % 8) = 2 ^ (8 * (i % 8)) := by rw [Int.pow_mul]; rfl
    have hpw : (256 : Int) ^ i = 18446744073709551616 ^ (i / 8) * 2 ^ (8 * (i % 8)) := by
      rw [← hs8, show (18446744073709551616 : Int) = 256 ^ 8 from rfl, ← Int.pow_mul, ← Int.pow_add]; congr 1; omega
    have hp8 := pow_pos B0 (i / 8)
    have hp2 := two_pos (8 * (i % 8))
    have hrb : rd out ((i / 8 : Nat) : Int) < 2 ^ (8 * (i % 8)) := by
      rw [rd_vl hd B0, hv]
      have h1 : vl 256 (l.take i) / 18446744073709551616 ^ (i / 8) < 2 ^ (8 * (i % 8)) := Int.ediv_lt_of_lt_mul hp8 (by rw [Int.mul_comm, ← hpw]; exact ht.2)
      have h2 := ediv_nn (b := 18446744073709551616 ^ (i / 8)) ht.1 (Int.le_of_lt hp8)
      have h3 := Int.emod_add_mul_ediv (vl 256 (l.take i) / 18446744073709551616 ^ (i / 8)) 18446744073709551616
      have h4 := ediv_nn (b := 18446744073709551616) h2 (by omega)
      omega
    have h56 : (2 : Int) ^ (8 * (i % 8)) ≤ 2 ^ 56 := pow_le (by omega) (by omega)
    rw [show (2 : Int) ^ 56 = 72057594037927936 from rfl] at h56
    have hy0 : 0 ≤ rd l (i : Int) * 2 ^ (8 * (i % 8)) := Int.mul_nonneg hr.1 (Int.le_of_lt hp2)
    have hy1 : rd l (i : Int) * 2 ^ (8 * (i % 8)) ≤ 255 * 2 ^ (8 * (i % 8)) := Int.mul_le_mul_of_nonneg_right (by omega) (Int.le_of_lt hp2)
    have hsh : shl .u64 (IntKind.u64.wrap (rd l (i : Int))) ((8 * (i % 8) : Nat) : Int) = rd l (i : Int) * 2 ^ (8 * (i % 8)) := by
      rw [shl_eq _ _ (by omega), wrap_id _ hr.1 (by omega), Int.emod_eq_of_lt hy0 (by omega)]
    have hor : Go.bits .or .u64 (rd out ((i / 8 : Nat) : Int)) (rd l (i : Int) * 2 ^ (8 * (i % 8))) = rd out ((i / 8 : Nat) : Int) + rd l (i : Int) * 2 ^ (8 * (i % 8)) := by
      rw [or_comm' _ _ hro.1 hro.2 hy0 (by omega), or_add _ _ (8 * (i % 8)) hy0 (by omega) hro.1 hrb (by omega) (Int.mul_emod_left _ _), Int.add_comm]
    refine Evn.succ (fun k => ?_) (ih (i + 1) (out.set (i / 8) (rd out ((i / 8 : Nat) : Int) + rd l (i : Int) * 2 ^ (8 * (i % 8)))) (by omega) (by rw [List.length_set]; omega) (by rw [List.length_set]; omega) (dg_set hd (by omega) (by omega)) (by
      rw [vl_set _ _ _ hw, hv, vl_take_succ, hpw]; grind))
    rw [number_Of.l0, if_pos (by omega), if_pos (by omega), if_pos (by omega), t1, t2, w64 ((i / 8 : Nat) : Int) (by omega) (by omega), if_pos (by omega), if_pos (by omega), w64 (8 * ((i % 8 : Nat) : Int)) (by omega) (by omega), if_pos (by omega), Int.toNat_natCast, show 8 * ((i % 8 : Nat) : Int) = ((8 * (i % 8) : Nat) : Int) by omega, hsh, hor, w64 _ (by omega) (by omega)]
    rfl
theorem of_ev (l : List Int) (h : dg 256 l) (hl : l.length ≤ 1073741824) : Evn (fun k => number_Of.f k l) (dgs 18446744073709551616 (vl 256 l)) := by
  refine Evn.congr (fun k => ?_) (of_loop l h hl l.length 0 (List.replicate ((l.length + 7) / 8) 0) (by omega) (by simp; omega) (by simp; omega) (dg_replicate B0 _) (by rw [vl_zeros]; simp [vl]))
  have t1 := tdiv_nat (l.length + 7) 8
  rw [show ((8 : Nat) : Int) = 8 from rfl] at t1
  unfold number_Of.f
  rw [w64 ((l.length : Int) + 8) (by omega) (by omega), show (l.length : Int) + 8 - 1 = ((l.length + 7 : Nat) : Int) by omega, w64 ((l.length + 7 : Nat) : Int) (by omega) (by omega), t1, w64 _ (by omega) (by omega), if_pos (by omega), if_pos (by omega), Int.toNat_natCast]
  rfl
end Go.Proofs.Ytdaehflffecllaa.A
