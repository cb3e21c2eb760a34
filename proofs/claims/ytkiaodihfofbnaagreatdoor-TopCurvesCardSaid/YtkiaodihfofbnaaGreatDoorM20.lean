/- X448 of a secret number and a point's u is the u of that number times the point (the law TopCurves): part 21 of 22 of its proof: the row's closed facts. The listed variables are tied to the program's text; no other condition. -/
import Derived.Test.YtkiaodihfofbnaaGreatDoorM19
set_option linter.unusedVariables false
set_option linter.unusedSimpArgs false
namespace Go.Proofs.YtkiaodihfofbnaaGreatDoor.topCurves
open Go Go.ChangeShapes Go.WideShapes Go.ChangeAt Go.RowKit
theorem f_heard : Tryz.pinned.checked.prog.stopsHeard = true := by kernel_rfl
theorem f_enter : Tryz.pinned.checked.prog.mayEnter = true := by kernel_rfl
theorem f_lifts : (false == Tryz.pinned.checked.prog.liftsFinal) = true := by kernel_rfl
theorem f_made : (Tryz.pinned.checked.prog.make == some Make.cut) = true := by kernel_rfl
theorem f_laid : laidOutB Tryz.pinned.checked.prog = true := by kernel_rfl
theorem f_rowed : mapsRowed Tryz.pinned.checked.prog = true := by kernel_rfl
theorem and_t {a b : Bool} (h : a = true) (k : b = true) : (a && b) = true := by rw [h, k]; rfl
set_option maxRecDepth 100000 in
set_option maxHeartbeats 8000000 in
theorem closedF : joinedFacts Tryz.pinned.checked.prog 3 Tryz.f3 Rows.topCurvesSpec Rows.topCurvesRow = true := by
  unfold joinedFacts
  rw [show Rows.topCurvesRow.make = Make.cut from rfl, show Rows.topCurvesRow.lifted = false from rfl]
  repeat' (with_reducible refine and_t ?_ ?_)
  all_goals first | (with_reducible exact f_heard) | (with_reducible exact f_enter) | (with_reducible exact f_lifts) | (with_reducible exact f_made) | (with_reducible exact f_laid) | (with_reducible exact f_rowed) | (as_aux_lemma => kernel_rfl)
end Go.Proofs.YtkiaodihfofbnaaGreatDoor.topCurves
