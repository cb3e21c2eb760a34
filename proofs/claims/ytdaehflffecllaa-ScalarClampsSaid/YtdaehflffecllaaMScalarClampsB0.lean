/- The law ScalarClamps returns true whatever the input: B0 of its proof; no condition. (Joined by wip/shake.py.) -/
import Derived.Test.YtdaehflffecllaaMScalarClampsT1
namespace Go.Proofs.Ytdaehflffecllaa.A
open Go.RowKit Go.Proofs.YtdaehflffecllaaW.PrintWords Go.Proofs.Ytdaehflffecllaa.T
theorem C0 : (0 : Int) < 256 := by omega
end Go.Proofs.Ytdaehflffecllaa.A
