/- X448 of a secret number and a point's u is the u of that number times the point (the law TopCurves): part 22 of 22 of its proof: the row and the card. The listed variables are tied to the program's text; no other condition. -/
import Derived.Test.YtkiaodihfofbnaaGreatDoorM20
set_option linter.unusedVariables false
set_option linter.unusedSimpArgs false
namespace Go.Proofs.YtkiaodihfofbnaaGreatDoor.topCurves
open Go Go.ChangeShapes Go.WideShapes Go.ChangeAt Go.RowKit
theorem row_holds : Rows.TopCurvesSaid :=
  OpenClaim.holds_of_wide 3 Tryz.f3 rfl rfl rfl rfl rfl rfl rfl ⟨rfl, rfl, rfl, rfl, rfl⟩ rfl rfl rfl rfl rfl (by kernel_rfl) Tryz.func3 closedF
    (of_decide_eq_true (by kernel_rfl)) (by unfold Func.isWrapper; first | (rw [if_pos (by decide +kernel)]; kernel_rfl) | (rw [if_neg (by decide +kernel)]; exact ⟨rfl, rfl⟩))
    (fun os started H enc _ => lifted os started H enc)
theorem card_holds : Rows.TopCurvesCardSaid :=
  Claim7.holds_tied_plain_at .later [] [.data, .data, .data] true (true, "6f6e1f197794ce702484473886e7e9a159e4e4ff4e5c7970d18b86bd85b31539") false
    row_holds (fun _ h => by cases h) (by kernel_rfl) (fun _ h => by cases h) topCurves_row_tie rfl ⟨rfl, rfl⟩ (by kernel_rfl) rfl
    (fun f fn hf hfn => by
      obtain rfl : f = 3 := Option.some.inj ((show Tryz.prog.funcNamed "chicory/chicorytop.TopCurves" = some 3 by kernel_rfl).symm.trans hf) |>.symm
      obtain rfl : fn = Tryz.f3 := (Option.some.inj (Tryz.func3.symm.trans hfn)).symm
      exact ⟨by kernel_rfl, fun j t ht => by
        rw [Tryz.params3] at ht
        have hm : t ∈ [24, 25] := by simpa using Array.mem_of_getElem? ht
        have hall : ([24, 25].all fun u => !Tryz.prog.wantsStandIn u) = true := by kernel_rfl
        exact (show Tryz.prog.wantsStandIn t = false by simpa using List.all_eq_true.1 hall t hm)⟩)
    (by kernel_rfl)
#print axioms card_holds
end Go.Proofs.YtkiaodihfofbnaaGreatDoor.topCurves
namespace Go.Proofs.YtkiaodihfofbnaaGreatDoor
/-- The card, under a short name, for the claim. -/
theorem topCurves_holds : Rows.TopCurvesCardSaid := topCurves.card_holds
end Go.Proofs.YtkiaodihfofbnaaGreatDoor
