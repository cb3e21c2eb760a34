/- The law ScalarRing returns true whatever the input: the row of its proof; no condition. (Joined by wip/shake.py.) -/
import Derived.Test.YtdaehflffecllaaRows
import Derived.Test.YtdaehflffecllaaF0
import Derived.Test.YtdaehflffecllaaMScalarRingN3
import Derived.Test.YtdaehflffecllaaMScalarRingA0
import Derived.Test.YtdaehflffecllaaMScalarRingR0
import Derived.WalkKit
import Derived.ProofKit
import Derived.OpenShut
import Derived.ShutString
import Derived.ChangeOld
import Derived.Below
import Derived.SizedLaws
import Derived.ChangeSlices
namespace Go.Proofs.Ytdaehflffecllaa.scalarRing
open Go.ChangeShapes Go.WideShapes Go.ChangeAt Go.RowKit
open Go.ChangeMaps (open_string shut_string)
set_option linter.unusedVariables false
theorem own : ownKnob Try.prog.godebug = none := by kernel_rfl
theorem laidOut : laidOutB Try.prog = true := by kernel_rfl
theorem raw_of {zs : List Int} (h : zs.length = 57) (hw : ∀ z ∈ zs, (Lit.int .u8 z).wf = true) : A.Rw zs := ⟨h, A.bytes_of hw⟩
theorem rv_of {zs : List Int} (h : zs.length = 57) : (zs.map (Value.int .u8)).toArray = N.rv zs := by
  have e : ((N.l57 zs).map (Value.int .u8)).toArray = N.rv zs := rfl
  rw [← e, A.l57_id h]
open Go.Proofs.YtdaehflffecllaaW.PrintWords Go.Proofs.YtdaehflffecllaaW.PrintLast Go.Proofs.YtdaehflffecllaaW.PrintMore in
theorem walk {W : World} {b0 : List Int} {b1 : List Int} {b2 : List Int} (w0 : A.Rw b0) (w1 : A.Rw b1) (w2 : A.Rw b2) :
    Calls Try.prog 21 #[.agg (N.rv b0), .agg (N.rv b1), .agg (N.rv b2)] W fun e w' => e = .returned (.bool true) ∧ Below W.heap.size W w' := by
  obtain ⟨k, h⟩ := Pure.ScalarRing b0 b1 b2 w0 w1 w2
  exact N.chicorylaw06_ScalarRing.calls k b0 b1 b2 W h
set_option maxRecDepth 100000 in
theorem lifted (os : Os) (started : os.Started) (H : Type) (enc : TypeId × Value → H) :
    ReturnsInHanded {} Try.checked os 21 .any (Rows.scalarRingSpec.pre6 enc Try.prog Try.f21 Rows.scalarRingRow.domain false) (Rows.scalarRingSpec.post enc Try.prog Try.f21 false true false false) := by
  refine returnsInHanded_of_change_sized (C := Try.checked) own started (by kernel_rfl) Try.func21
    (ChangeSpec.witness6 (enc := enc) (C := Try.checked) false ⟨#[], #[.agg (N.rv []), .agg (N.rv []), .agg (N.rv [])], []⟩ 8 (by kernel_rfl) (by kernel_rfl) (by kernel_rfl) (by kernel_rfl)) ?_
  intro W base args ds gs before hval0 hW hcnd hsz0 _
  have hsz : (DataW.weightsEach Try.prog (Try.f21.params.toList ++ Rows.scalarRingSpec.plain.varTypes Try.prog) (ds ++ gs)).all (· ≤ reachBytes) = true := hsz0
  have hval : ∀ (j : Nat) t v, Try.f21.params[j]? = some t → args[j]? = some v → Value.okWide Try.prog W .any base t v := hval0
  have hW' := hW
  obtain ⟨p, q, hA0, hV, rfl, hfz, hnd⟩ := hW
  have hA : DataW.TrodAll enc Try.prog W 0 (fun _ => true) true Try.f21.params.toList args.toList ds p := hA0
  rw [Try.params21] at hA hval hsz
  obtain ⟨v0, vs0, d0, ds0, p0, q0, hargs, rfl, rfl, h0, r0⟩ := trodAll_cons hA
  obtain ⟨v1, vs1, d1, ds1, p1, q1, rfl, rfl, rfl, h1, r1⟩ := trodAll_cons r0
  obtain ⟨v2, vs2, d2, ds2, p2, q2, rfl, rfl, rfl, h2, r2⟩ := trodAll_cons r1
  obtain ⟨rfl, rfl, rfl⟩ := trodAll_nil r2
  obtain rfl : args = #[v0, v1, v2] := by cases args; simp_all
  obtain ⟨rfl, rfl⟩ := trodVars_none hV
  have k0 := h0
  have lt0 : ∀ x ∈ p0, x.block < W.heap.size := by obtain ⟨m, hm⟩ := k0; exact DataW.trod_lt m _ _ _ hm
  obtain ⟨b0, hl0, rfl, hw0, rfl⟩ := R0.open_array Try.underlying70 Try.underlying5 (by kernel_rfl) (by kernel_rfl) (hval 0 70 v0 rfl rfl) h0
  rw [rv_of hl0] at k0 hW' ⊢
  have k1 := h1
  have lt1 : ∀ x ∈ p1, x.block < W.heap.size := by obtain ⟨m, hm⟩ := k1; exact DataW.trod_lt m _ _ _ hm
  obtain ⟨b1, hl1, rfl, hw1, rfl⟩ := R0.open_array Try.underlying70 Try.underlying5 (by kernel_rfl) (by kernel_rfl) (hval 1 70 v1 rfl rfl) h1
  rw [rv_of hl1] at k1 hW' ⊢
  have k2 := h2
  have lt2 : ∀ x ∈ p2, x.block < W.heap.size := by obtain ⟨m, hm⟩ := k2; exact DataW.trod_lt m _ _ _ hm
  obtain ⟨b2, hl2, rfl, hw2, rfl⟩ := R0.open_array Try.underlying70 Try.underlying5 (by kernel_rfl) (by kernel_rfl) (hval 2 70 v2 rfl rfl) h2
  rw [rv_of hl2] at k2 hW' ⊢
  clear hA0 hval0 hsz0 hsz
  refine (walk (raw_of hl0 hw0) (raw_of hl1 hw1) (raw_of hl2 hw2)).mono fun e W' ⟨he, bel⟩ => ?_
  subst he
  exact ⟨_, rfl, _, _, _, [], _, [], hW', trodAll_mk1 (shut_bool Try.underlying4 _), (trodAll_cons_mk (Below.trod laidOut (by kernel_rfl) (of_decide_eq_true (by kernel_rfl)) k0 bel lt0) (trodAll_cons_mk (Below.trod laidOut (by kernel_rfl) (of_decide_eq_true (by kernel_rfl)) k1 bel lt1) (trodAll_cons_mk (Below.trod laidOut (by kernel_rfl) (of_decide_eq_true (by kernel_rfl)) k2 bel lt2) trodAll_mk0))), rfl, bel.frame _, fun h => by cases h⟩
set_option maxRecDepth 100000 in
set_option maxHeartbeats 8000000 in
theorem closedF : joinedFacts Try.pinned.checked.prog 21 Try.f21 Rows.scalarRingSpec Rows.scalarRingRow = true := by
  unfold joinedFacts
  rw [show Rows.scalarRingRow.make = Make.cut from rfl, show Rows.scalarRingRow.lifted = false from rfl]
  repeat' (with_reducible refine F.and_t ?_ ?_)
  all_goals first | (with_reducible exact F.heard) | (with_reducible exact F.enter) | (with_reducible exact F.lifts) | (with_reducible exact F.made) | (with_reducible exact F.laid) | (with_reducible exact F.rowed) | (as_aux_lemma => kernel_rfl)
theorem over : Rows.scalarRingRow.holds Try.pinned (OpenSpec.ofChange Rows.scalarRingSpec) :=
  OpenClaim.holds_of_wide 21 Try.f21 rfl rfl rfl rfl rfl rfl rfl ⟨rfl, rfl, rfl, rfl, rfl⟩ rfl rfl rfl rfl rfl (by kernel_rfl) Try.func21 closedF
    (of_decide_eq_true (by kernel_rfl)) (by unfold Func.isWrapper; first | (rw [if_pos (by decide +kernel)]; kernel_rfl) | (rw [if_neg (by decide +kernel)]; exact ⟨rfl, rfl⟩))
    (fun os started H enc _ => lifted os started H enc)
theorem proved : Rows.ScalarRingSaid := over
end Go.Proofs.Ytdaehflffecllaa.scalarRing
namespace Go.Proofs.Ytdaehflffecllaa
/-- The row, under a short name, for the claim. -/
theorem scalarRing_holds : Rows.ScalarRingSaid := scalarRing.proved
end Go.Proofs.Ytdaehflffecllaa
#print axioms Go.Proofs.Ytdaehflffecllaa.scalarRing_holds
