/- The law NumberOwn returns true whatever the input: B0 of its proof; no condition. (Joined by wip/shake.py.) -/
import Derived.Test.YtdaehflffecllaaMNumberOwnT1
namespace Go.Proofs.Ytdaehflffecllaa.A
open Go.RowKit Go.Proofs.YtdaehflffecllaaW.PrintWords Go.Proofs.Ytdaehflffecllaa.T
theorem wrap_id (x : Int) (h0 : 0 ≤ x) (h1 : x < 18446744073709551616) : IntKind.u64.wrap x = x := by rw [IntKind.wrap_u64, Int.emod_eq_of_lt h0 h1]
theorem bsome {α β : Type} (a : α) (f : α → Option β) : (some a).bind f = f a := by cases h : f a <;> simp [h]
end Go.Proofs.Ytdaehflffecllaa.A
