/- The law NumberOwn returns true whatever the input: WInv of its proof; no condition. (Joined by wip/shake.py.) -/
import Derived.Test.YtdaehflffecllaaMNumberOwnWTab
namespace Go.Proofs.YtdaehflffecllaaW.PrintLast
def up (b : Nat → Bool) (i : Nat) : Nat → Bool := fun j => if j = i then true else b j
end Go.Proofs.YtdaehflffecllaaW.PrintLast
