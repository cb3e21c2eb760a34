/- The law NumberOwn returns true whatever the input: S0 of its proof; no condition. (Joined by wip/shake.py.) -/
import Derived.Test.YtdaehflffecllaaProg
import Derived.Below
import Derived.WalkKit
import Derived.Test.YtdaehflffecllaaMNumberOwnWWords
import Derived.Test.YtdaehflffecllaaMNumberOwnWLast
import Derived.Test.YtdaehflffecllaaMNumberOwnWMore
import Derived.Lib.SliceRun
import Derived.Laws.CopyOwn
namespace Go.Proofs.Ytdaehflffecllaa.N
open Go.RowKit Go.Proofs.YtdaehflffecllaaW.PrintWords Go.Proofs.YtdaehflffecllaaW.PrintLast Go.Proofs.YtdaehflffecllaaW.PrintMore
def g7 (a : List Int) (i : Nat) : Int := a.getD i 0
/-- The words of the variable at g are these. -/
def c7 (W : World) (g : Nat) (a : List Int) : Prop := W.cell? ⟨g, 0, none⟩ = some (.int .u64 (g7 a 0)) ∧ W.cell? ⟨g, 1, none⟩ = some (.int .u64 (g7 a 1)) ∧ W.cell? ⟨g, 2, none⟩ = some (.int .u64 (g7 a 2)) ∧ W.cell? ⟨g, 3, none⟩ = some (.int .u64 (g7 a 3)) ∧ W.cell? ⟨g, 4, none⟩ = some (.int .u64 (g7 a 4)) ∧ W.cell? ⟨g, 5, none⟩ = some (.int .u64 (g7 a 5)) ∧ W.cell? ⟨g, 6, none⟩ = some (.int .u64 (g7 a 6))
theorem bel {w0 w w1 : World} (h : Aside0 (Below w0.heap.size w0 w)) (hb : Below w.heap.size w w1) : Aside0 (Below w0.heap.size w0 w1) := ⟨below_step h.out hb⟩
end Go.Proofs.Ytdaehflffecllaa.N
