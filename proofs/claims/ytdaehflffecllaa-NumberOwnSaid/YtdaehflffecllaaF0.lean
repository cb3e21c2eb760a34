/- The closed facts of the whole program that every row of this seat asks: proved once. -/
import Derived.Test.YtdaehflffecllaaRows
import Derived.ProofKit
namespace Go.Proofs.Ytdaehflffecllaa.F
theorem heard : Try.pinned.checked.prog.stopsHeard = true := by kernel_rfl
theorem enter : Try.pinned.checked.prog.mayEnter = true := by kernel_rfl
theorem lifts : (false == Try.pinned.checked.prog.liftsFinal) = true := by kernel_rfl
theorem made : (Try.pinned.checked.prog.make == some Make.cut) = true := by kernel_rfl
theorem laid : laidOutB Try.pinned.checked.prog = true := by kernel_rfl
theorem rowed : mapsRowed Try.pinned.checked.prog = true := by kernel_rfl
theorem plain : (true == Try.pinned.checked.prog.plainKeys) = true := by kernel_rfl
theorem and_t {a b : Bool} (h : a = true) (k : b = true) : (a && b) = true := by rw [h, k]; rfl
end Go.Proofs.Ytdaehflffecllaa.F
