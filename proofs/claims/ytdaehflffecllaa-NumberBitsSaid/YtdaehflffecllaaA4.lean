/- What is common to the laws of package number. -/
import Derived.Test.YtdaehflffecllaaA2
import Derived.Test.YtdaehflffecllaaA3
namespace Go.Proofs.Ytdaehflffecllaa.A
open Go.RowKit Go.Proofs.YtdaehflffecllaaW.PrintWords Go.Proofs.Ytdaehflffecllaa.N Go.Proofs.Ytdaehflffecllaa.T

theorem awake_some : Evn (fun k => (chicorylaw03_awake.f k).bind fun t => some t) true := Evn.bind awake_ev (Evn.of fun _ => rfl)
theorem i64_of {n : Int} (h : (Lit.int .i64 n).wf = true) : -9223372036854775808 ≤ n ∧ n ≤ 9223372036854775807 := by
  unfold Lit.wf at h
  rw [Bool.and_eq_true, decide_eq_true_eq, decide_eq_true_eq] at h
  have e1 : IntKind.i64.min = -9223372036854775808 := by decide
  have e2 : IntKind.i64.max = 9223372036854775807 := by decide
  rw [e1, e2] at h
  exact h
/-- The bytes that the reference makes of words. -/
theorem sb_dg {l : List Int} (h : dg 18446744073709551616 l) : dg 256 (dgs 256 (vl 18446744073709551616 l)) := dgs_dg C2 _ (vl_nonneg h B0)
theorem sb_vl {l : List Int} (h : dg 18446744073709551616 l) : vl 256 (dgs 256 (vl 18446744073709551616 l)) = vl 18446744073709551616 l := vl_dgs C2 _ (vl_nonneg h B0)
theorem sb_len {l : List Int} (h : dg 18446744073709551616 l) : (dgs 256 (vl 18446744073709551616 l)).length ≤ 8 * l.length := dgs_len_le C2 _ (vl_nonneg h B0) _ (by rw [Int.pow_mul]; exact vl_lt h B0)
theorem sb_len' {n : Int} (h : 0 ≤ n) (m : Nat) (hm : n < 256 ^ m) : (dgs 256 n).length ≤ m := dgs_len_le C2 _ h _ hm
end Go.Proofs.Ytdaehflffecllaa.A
